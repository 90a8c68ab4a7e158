/- What a tag of mark does to a scanner of which Fine holds. -/
import Derived.Test.YtlkdhhkncoekgaaDoorFormsP
import Derived.Test.YtlkdhhkncoekgaaDoorBraceVc

section
namespace Go.Proofs.YtlkdhhkncoekgaaDoor
open Go.Am Go

theorem sCutPrefix_yes (s t : List UInt8) (h : pre s t = true) : Pure Tryd.prog 72 [.str s, .str t] (.tuple [.str (s.drop t.length), .bool true]) := by
  have hl : t.length ≤ s.length := by
    unfold pre at h
    simp only [Bool.and_eq_true, decide_eq_true_eq] at h
    omega
  refine Pure.of_vc follows' [] (by kernel_rfl) rfl rfl ?_
  rw [sCutPrefix_vc]
  refine (sHasPrefix_pure s t).use1 ⟨_, rfl, ?_⟩
  rw [h]
  simp only [Bool.not_true, cond_false]
  refine ⟨by omega, ?_⟩
  rw [show ((t.length : Int)).toNat = t.length from rfl, List.take_of_length_le (by rw [List.length_drop]; omega)]
theorem CutPrefix_yes (s t : List UInt8) (h : pre s t = true) : Pure Tryd.prog 43 [.str s, .str t] (.tuple [.str (s.drop t.length), .bool true]) := by
  refine Pure.of_vc follows' [] (by kernel_rfl) rfl rfl ?_
  rw [CutPrefix_vc]
  exact (sCutPrefix_yes s t h).use1 ⟨_, _, rfl, rfl⟩

theorem CountString_pure (s : List UInt8) (c : Int) : Pure Tryd.prog 109 [.str s, .int .u8 c] (.int .i64 (Lib.countByte s c.toNat.toUInt8)) :=
  Pure.ext ext_ok fun _ => rfl
set_option maxRecDepth 100000 in
theorem sCount_pure (s : List UInt8) : Pure Tryd.prog 92 [.str s, .str [44]] (.int .i64 (Lib.countByte s 44)) := by
  refine PureR.of_vcG follows' _ _ (by kernel_rfl) rfl (by rintro v rfl; rfl) (Eq.mpr (sCount_vc (real Tryd.prog) (Iter Tryd.prog) s _ _) ?_)
  simp only [real_call]
  exact ⟨by decide, (CountString_pure s 44).use1 ⟨_, rfl, rfl⟩⟩
theorem byte_back (c : UInt8) : ((c.toNat : Nat) : Int).toNat.toUInt8 = c := by
  rw [Int.toNat_natCast]; exact UInt8.ofNat_toNat
theorem letter_some {c : UInt8} (h : Lib.indexByte [98, 105, 117, 115] c ≥ 0) : ∃ k : Nat, 1 ≤ k ∧ k ≤ 4 ∧ Lib.indexByte [32, 98, 105, 117, 115] c = k := by
  by_cases h1 : c = 98
  · subst h1; exact ⟨1, by decide, by decide, by decide⟩
  by_cases h2 : c = 105
  · subst h2; exact ⟨2, by decide, by decide, by decide⟩
  by_cases h3 : c = 117
  · subst h3; exact ⟨3, by decide, by decide, by decide⟩
  by_cases h4 : c = 115
  · subst h4; exact ⟨4, by decide, by decide, by decide⟩
  exfalso
  have e : ∀ {b : UInt8}, ¬ c = b → (b == c) = false := fun {b} hn => beq_eq_false_iff_ne.2 fun e => hn e.symm
  simp [Lib.indexByte, e h1, e h2, e h3, e h4] at h
theorem letter_some' {c : UInt8} {lt : List UInt8} (hlt : lt = [98, 105, 117] ∨ lt = [98, 105, 117, 115]) (h : Lib.indexByte lt c ≥ 0) : ∃ k : Nat, 1 ≤ k ∧ k ≤ 4 ∧ Lib.indexByte [32, 98, 105, 117, 115] c = k := by
  rcases hlt with rfl | rfl
  · refine letter_some ?_
    by_cases h1 : c = 98
    · subst h1; decide
    by_cases h2 : c = 105
    · subst h2; decide
    by_cases h3 : c = 117
    · subst h3; decide
    exfalso
    have e : ∀ {b : UInt8}, ¬ c = b → (b == c) = false := fun {b} hn => beq_eq_false_iff_ne.2 fun e => hn e.symm
    simp [Lib.indexByte, e h1, e h2, e h3] at h
  · exact letter_some h

theorem now_open {x : St} (hd : x.d = 1 ∨ x.d = 2) {k : Nat} (h1 : 1 ≤ k) (h4 : k ≤ 4) (h0 : 0 ≤ x.op k) : (x.opn k 1).now = x.now ∨ onL (x.opn k 1).now = onL x.now + 1 := by
  have hb : (x.d == 1 || x.d == 2) = true := by rcases hd with h | h <;> rw [h] <;> rfl
  have other : ∀ j, j ≠ k → (x.opn k 1).op j = x.op j := fun j hj => by unfold St.opn; simp only; rw [if_neg hj]
  have own : (x.opn k 1).op k = x.op k + 1 := by unfold St.opn; simp
  have shape : ∀ y : St, y.d = x.d → y.cols = x.cols → y.now = ⟨decide (y.op 1 > 0), decide (y.op 2 > 0), decide (y.op 3 > 0), decide (y.op 4 > 0), x.cols.getLast?.getD 0⟩ := fun y e1 e2 => by
    unfold St.now; rw [e1, e2, hb]; rfl
  rw [shape (x.opn k 1) rfl rfl, shape x rfl rfl]
  by_cases hk : x.op k > 0
  · left
    have e : ∀ j, decide ((x.opn k 1).op j > 0) = decide (x.op j > 0) := fun j => by
      by_cases hj : j = k
      · subst hj; rw [own, decide_eq_true hk, decide_eq_true (by omega)]
      · rw [other j hj]
    rw [e, e, e, e]
  · right
    have e1 : decide ((x.opn k 1).op k > 0) = true := by rw [own, decide_eq_true_iff]; omega
    have e2 : decide (x.op k > 0) = false := decide_eq_false hk
    unfold onL
    match k, h1, h4 with
    | 1, _, _ => simp only [e1, e2, other 2 (by decide), other 3 (by decide), other 4 (by decide), cond_true, cond_false]; omega
    | 2, _, _ => simp only [e1, e2, other 1 (by decide), other 3 (by decide), other 4 (by decide), cond_true, cond_false]; omega
    | 3, _, _ => simp only [e1, e2, other 1 (by decide), other 2 (by decide), other 4 (by decide), cond_true, cond_false]; omega
    | 4, _, _ => simp only [e1, e2, other 1 (by decide), other 2 (by decide), other 3 (by decide), cond_true, cond_false]; omega

theorem PastK.no {R : St → Prop} {x : St} (h : R x.signed) {p : Nat} {H H' : AH} (hA : ∃ qs qo qc cap, AtS H' p x qs qo qc cap) (hn : H.n ≤ H'.n) (ho : ∀ c, c < p → H'.get c = H.get c) : PastK R x p H (.int .i64 0) H' :=
  ⟨0, x, rfl, hA, hn, ho, by decide, rfl, rfl, rfl, rfl, h⟩
theorem PastK.yes {R : St → Prop} {x y : St} {n : Nat} (h0 : 0 < n) (h4 : n ≤ 4194304) (h : R (y.skip n)) {p : Nat} {H H' : AH} (hA : ∃ qs qo qc cap, AtS H' p y qs qo qc cap) (hn : H.n ≤ H'.n) (ho : ∀ c, c < p → H'.get c = H.get c) (e1 : y.i = x.i) (e2 : y.d = x.d) (e3 : y.s = x.s) {v : AV} (hv : v = .int .i64 n) : PastK R x p H v H' := by
  refine ⟨n, y, hv, hA, hn, ho, h4, e1, e2, e3, ?_⟩
  have : decide (0 < n) = true := by rw [decide_eq_true_iff]; exact h0
  rw [this]; exact h

set_option maxRecDepth 100000 in
theorem append_col {H : AH} {qc : Option Nat} {cap : Nat} {cols : List Int} {c : Int} (h : HasCols H qc cap cols) (hb : ∀ b, qc = some b → b < H.n) {c0 : Nat} (hc0 : qc ≠ some c0) {fl : Fl} (hc : H.get c0 = some (.cells [.int .i64 c] 3 fl)) (hl : cols.length ≤ 5000000) :
    ∃ q' cap' H', appendV Tryd.prog H 58 58 (.slice (qc.map fun b => (b, 0)) cols.length cap) (.slice (some (c0, 0)) 1 1) = some (.slice (q'.map fun b => (b, 0)) (cols ++ [c]).length cap', H') ∧ HasCols H' q' cap' (cols ++ [c]) ∧ H.n ≤ H'.n ∧
      (q' = qc ∨ (q' = some H.n ∧ H'.n = H.n + 1)) ∧ ∀ d, d < H.n → qc ≠ some d → H'.get d = H.get d := by
  have hlen : (cols ++ [c]).length = cols.length + 1 := by simp
  have hsrc : srcV H 1 (.slice (some (c0, 0)) 1 1) = some (1, [.int .i64 c]) := by
    simp [srcV, AH.read, hc]
  have t1 : Tryd.prog.underlying 58 = some (.slice 3) := by kernel_rfl
  have t2 : szOf Tryd.prog 3 = some 1 := by kernel_rfl
  have t3 : byOf Tryd.prog 3 = some 8 := by kernel_rfl
  have t4 : zeroOf Tryd.prog 3 = some (.int .i64 0) := by kernel_rfl
  have step : ∀ (a : Option (Nat × Nat)) (cap : Nat), appendV Tryd.prog H 58 58 (.slice a cols.length cap) (.slice (some (c0, 0)) 1 1) =
      (if cols.length + 1 ≤ cap then
        match a with
        | none => none
        | some (b, o) => (H.write b (o + cols.length * 1) [.int .i64 c]).map fun H' => (.slice a (cols.length + 1) cap, H')
      else
        match a with
        | none => if cols.length = 0 then some (.slice (some (H.n, 0)) (cols.length + 1) (cols.length + 1), H.alloc (.cells [.int .i64 c] 3 { opn := true })) else none
        | some (b, o) =>
          match H.get b with
          | some (.cells cs e' fl) =>
            if o + cols.length * 1 ≤ cs.length ∧ o + cap * 1 ≤ cs.length ∧ (fl.opn = true → e' = 3) then
              if fl.opn = true ∧ o + cap * 1 = cs.length then
                if fl.own = true ∧ fl.fz ≤ o + cols.length * 1 then
                  some (.slice (some (H.n, 0)) (cols.length + 1) (cols.length + 1), (H.set b .dead).alloc (.cells ((cs.drop o).take (cols.length * 1) ++ [.int .i64 c]) 3 { opn := true, fz := fl.fz - o, sish := fl.sish }))
                else none
              else some (.slice (some (H.n, 0)) (cols.length + 1) (cols.length + 1), H.alloc (.cells ((cs.drop o).take (cols.length * 1) ++ [.int .i64 c]) 3 { opn := true }))
            else none
          | _ => none) := by
    intro a cap
    unfold appendV
    simp only [t1, t2, t3, t4, hsrc, Option.bind_some, Bool.false_eq_true, if_false]
    by_cases hcap : cols.length + 1 ≤ cap
    · rw [if_pos hcap, if_pos hcap]
      cases a <;> rfl
    · rw [if_neg hcap, if_neg hcap]
      have hno : ¬ (8 = 0 ∨ (2 * (cols.length + 1) + 1000) * 8 > 2 ^ 48 ∨ ([AV.int .i64 c].all AV.one) = false ∨ (Option.map (fun z => (AV.cells z).length) (some (AV.int .i64 0))) ≠ some 1) := by
        rintro (g | g | g | g)
        · cases g
        · have : (2 : Nat) ^ 48 = 281474976710656 := by decide
          omega
        · simp [AV.one] at g
        · exact g rfl
      rw [if_neg hno]
      cases a with
      | none => rfl
      | some q =>
        obtain ⟨b, o⟩ := q
        simp only
        cases H.get b with
        | none => rfl
        | some o => cases o <;> rfl
  cases qc with
  | none =>
    obtain ⟨rfl, rfl⟩ := h
    refine ⟨some H.n, 1, H.alloc (.cells [.int .i64 c] 3 { opn := true }), ?_, ⟨[], by rw [AH.get_alloc, if_pos rfl]; rfl, rfl⟩, by simp, .inr ⟨rfl, rfl⟩, fun d hd _ => by rw [AH.get_alloc, if_neg (by omega)]⟩
    rw [Option.map_none, step none 0]
    rfl
  | some b =>
    obtain ⟨rest, g1, g2⟩ := h
    have hbn := hb b rfl
    rw [Option.map_some, step (some (b, 0)) cap, hlen]
    have hcl : (flat icell (cols ++ rest)).length = cap := by rw [flat_length (w := 1) (fun _ => rfl), g2]; omega
    cases rest with
    | cons r rest =>
      have hcap : cols.length + 1 ≤ cap := by rw [g2]; simp only [List.length_append, List.length_cons]; omega
      rw [if_pos hcap]
      have hs : splice (flat icell (cols ++ r :: rest)) (0 + cols.length * 1) [.int .i64 c] = flat icell ((cols ++ [c]) ++ rest) := by
        have := splice_flat (f := icell) (w := 1) (fun _ => rfl) (l := cols ++ r :: rest) (i := cols.length) (k := 0) (vs := [.int .i64 c]) (y := c) (by simp) (by simp) (by simp [splice, icell])
        rw [Nat.add_zero] at this
        rw [Nat.zero_add, this]
        congr 1
        simp
      refine ⟨some b, cap, H.set b (.cells (flat icell ((cols ++ [c]) ++ rest)) 3 { opn := true }), ?_, ⟨rest, by rw [AH.get_set, if_pos rfl], by rw [g2]; simp⟩, by simp, .inl rfl, fun d hd hq => by rw [AH.get_set, if_neg (fun e => hq (by rw [e]))]⟩
      unfold AH.write
      simp only [g1]
      rw [if_pos ⟨(by trivial), Nat.zero_le _, by rw [hcl]; simp only [List.length_cons, List.length_nil]; omega, by simp [AV.one]⟩, hs]
      rfl
    | nil =>
      have hcap : ¬ (cols.length + 1 ≤ cap) := by rw [g2]; simp
      have ce : cap = cols.length := by rw [g2]; simp
      rw [List.append_nil] at g1 hcl
      rw [if_neg hcap]
      simp only [g1]
      rw [if_pos ⟨by omega, by omega, fun _ => (by trivial)⟩, if_pos ⟨(by trivial), by omega⟩, if_pos ⟨(by trivial), Nat.zero_le _⟩]
      refine ⟨some H.n, cols.length + 1, (H.set b .dead).alloc (.cells (flat icell (cols ++ [c])) 3 { opn := true }), ?_, ⟨[], by rw [AH.get_alloc]; simp, by simp⟩, by simp, .inr ⟨rfl, rfl⟩, fun d hd hq => ?_⟩
      · have e1 : (List.drop 0 (flat icell cols)).take (cols.length * 1) = flat icell cols := by rw [List.drop_zero, List.take_of_length_le (by omega)]
        rw [e1, flat_append, flat_one]; rfl
      · rw [AH.get_alloc, if_neg (by simp only [AH.n_set]; omega), AH.get_set, if_neg (fun e => hq (by rw [e]))]

theorem beq_t {b : Bool} : ((b == true) = true) = (b = true) := by cases b <;> simp

theorem AtS.recol {H : AH} {p : Nat} {x : St} {qs qo qc : Option Nat} {cap : Nat} (h : AtS H p x qs qo qc cap) {H' : AH} {q' : Option Nat} {cap' : Nat} {cols' : List Int} (hn : H.n ≤ H'.n) (hk : ∀ b, b < H.n → qc ≠ some b → H'.get b = H.get b)
    (hc : HasCols H' q' cap' cols') (hq : q' = qc ∨ ∃ b, q' = some b ∧ H.n ≤ b ∧ b < H'.n) (hf : cols'.length ≤ 5000000) :
    ∃ H'', H'.write p 10 [.slice (q'.map fun b => (b, 0)) cols'.length cap'] = some H'' ∧ AtS H'' p { x with cols := cols' } qs qo q' cap' ∧ H''.n = H'.n ∧ ∀ c, c ≠ p → H''.get c = H'.get c := by
  have hlt := h.lt
  have hp : H'.get p = _ := (hk p hlt (fun e => by have := h.bc p e; omega)).trans h.cells
  refine ⟨H'.set p (.cells (St.cells { x with cols := cols' } (sl qs x.so.length) (sl qo x.ps.length) (.slice (q'.map fun b => (b, 0)) cols'.length cap')) 60 { whole := true }), ?_, ?_, rfl, fun c hc => by rw [AH.get_set, if_neg hc]⟩
  · unfold AH.write
    rw [hp]
    simp only
    rw [if_pos ⟨trivial, Nat.zero_le _, by simp [St.cells], by simp [AV.one]⟩]
    rfl
  · have old : ∀ b, b ≠ p → b < H.n → qc ≠ some b → (H'.set p (.cells (St.cells { x with cols := cols' } (sl qs x.so.length) (sl qo x.ps.length) (.slice (q'.map fun b => (b, 0)) cols'.length cap')) 60 { whole := true })).get b = H.get b := fun b h1 h2 h3 => by
      rw [AH.get_set, if_neg h1]; exact hk b h2 h3
    have bq : ∀ b, q' = some b → p < b ∧ b < H'.n := fun b hb => by
      rcases hq with e | ⟨c, e, g1, g2⟩
      · have := h.bc b (e ▸ hb); omega
      · rw [e] at hb; cases hb; omega
    refine ⟨by rw [AH.get_set, if_pos rfl], by show p < H'.n; omega, h.bytes.same fun b hb => ?_, h.pieces.same fun b hb => ?_, hc.same fun b hb => ?_, fun b hb => ?_, fun b hb => ?_, bq, fun b hb => ⟨(h.ap b hb).1, fun e => ?_⟩, fun b hb e => ?_, hf⟩
    · exact old b (by have := h.bs b hb; omega) (h.bs b hb).2 (h.ap b hb).2
    · exact old b (by have := h.bo b hb; omega) (h.bo b hb).2 (h.ao b hb)
    · rw [AH.get_set, if_neg (by have := bq b hb; omega)]
    · have := h.bs b hb; show p < b ∧ b < H'.n; omega
    · have := h.bo b hb; show p < b ∧ b < H'.n; omega
    · rcases hq with e' | ⟨c, e', g1, g2⟩
      · exact (h.ap b hb).2 (e' ▸ e)
      · rw [e'] at e; cases e; have := h.bs b hb; omega
    · rcases hq with e' | ⟨c, e', g1, g2⟩
      · exact h.ao b hb (e' ▸ e)
      · rw [e'] at e; cases e; have := h.bo b hb; omega

set_option maxRecDepth 100000 in
theorem angle_fine {d : Int} {s : List UInt8} {x : St} (hd : d = 1 ∨ d = 2) (h : Fine d s x) (hl : x.i < s.length) (hr : x.so.length ≤ 4096) (_ : s[x.i]?.getD 0 = 60) (hs : s.length ≤ 4194304) :
    Past (Fine d s) 23 x := by
  intro H p qs qo qc cap hA
  have hsg := h.signed hr hl
  have hxs := h.isS
  have hxd := h.isD
  have hle := h.le
  have hdx : x.d = 1 ∨ x.d = 2 := by rw [hxd]; exact hd
  obtain ⟨t, ht⟩ : ∃ t, t = x.s.drop x.i := ⟨_, rfl⟩
  have tl : t.length = s.length - x.i := by rw [ht, List.length_drop, hxs]
  rw [← ht]
  obtain ⟨Q, hQ⟩ : ∃ Q, Q = PastK (Fine d s) x p H := ⟨_, rfl⟩
  rw [← hQ]
  have pass : ∀ {H' : AH} {qs qo qc : Option Nat} {cap : Nat}, AtS H' p x qs qo qc cap → ∀ n : Nat, x.i + n ≤ s.length → ACallee Tryd.prog 45 [.ptr (some (p, 0)), .int .i64 n] H' fun v H'' => v = .bool (!melts x.so (s.drop (x.i + n))) ∧ H'' = H' := by
    intro H' qs qo qc cap hA' n hn
    have := passes_S hA' n (by rw [hxs]; exact hn) (by rw [hxs]; exact hs) (by omega)
    rw [hxs] at this
    exact this
  have no : ∀ {H' : AH} {qs qo qc : Option Nat} {cap : Nat}, AtS H' p x qs qo qc cap → H.n ≤ H'.n → (∀ c, c < H.n → H'.get c = H.get c) → Q (.int .i64 0) H' := by
    intro H' qs qo qc cap h1 h2 h3
    rw [hQ]
    exact PastK.no hsg ⟨_, _, _, _, h1⟩ h2 fun c hc => h3 c (by have := hA.lt; omega)
  refine .inl ⟨goB_spec (by kernel_rfl), vcG_ok (anns := _) (rans := _) follows' (Eq.mpr (angle_vc (real Tryd.prog) (Iter Tryd.prog) p t H Q) ?_)⟩
  simp only [real_n, real_al, real_rd1, real_call, real_wr, real_wrap, real_app, real_slc]
  have rC : ∀ i, H.read1 p i = (x.cells (sl qs x.so.length) (sl qo x.ps.length) (.slice (qc.map fun b => (b, 0)) x.cols.length cap))[i]? := fun i => by unfold AH.read1; rw [hA.cells]
  have rop : ∀ k : Nat, 1 ≤ k → k ≤ 4 → H.read1 p (5 + k) = some (.int .i64 (x.op k)) := fun k h1 h4 => by
    rw [rC]
    match k, h1, h4 with
    | 1, _, _ => rfl
    | 2, _, _ => rfl
    | 3, _, _ => rfl
    | 4, _, _ => rfl
  have sop : ∀ (k : Nat) (m : Int), 1 ≤ k → k ≤ 4 → splice (x.cells (sl qs x.so.length) (sl qo x.ps.length) (.slice (qc.map fun b => (b, 0)) x.cols.length cap)) (5 + k) [.int .i64 (x.op k + m)] = (x.opn k m).cells (sl qs x.so.length) (sl qo x.ps.length) (.slice (qc.map fun b => (b, 0)) x.cols.length cap) := fun k m h1 h4 => by
    match k, h1, h4 with
    | 1, _, _ => simp [splice, St.cells, St.opn]
    | 2, _, _ => simp [splice, St.cells, St.opn]
    | 3, _, _ => simp [splice, St.cells, St.opn]
    | 4, _, _ => simp [splice, St.cells, St.opn]
  have hop := h.op
  have nm := h.name
  have sd := h.side
  have tt : (true == true) = true := rfl
  have ff : (false == true) = false := rfl
  refine ⟨x.d, by rw [rC]; rfl, by decide, fun y H' => (y.2 = [98, 105, 117] ∨ y.2 = [98, 105, 117, 115]) ∧ H = H', ?_, ?_⟩
  · cases hd2 : (x.d == (2 : Int)) with
    | true => simp only [cond_true]; exact ⟨by decide, (true, [98, 105, 117]), 0, trivial, rfl, .inl rfl, (by trivial)⟩
    | false => simp only [cond_false]; exact ⟨(false, [98, 105, 117, 115]), 0, trivial, rfl, .inr rfl, (by trivial)⟩
  rintro ⟨vo, lt⟩ _ ⟨hlt, rfl⟩
  simp only at hlt ⊢
  refine ⟨fun y H' => H = H' ∧ (y.1.2 = [98, 105, 117] ∨ y.1.2 = [98, 105, 117, 115]) ∧ (y.2 = true → x.i + 3 ≤ s.length ∧ melts x.so (s.drop (x.i + 3)) = false ∧ ∃ k : Nat, 1 ≤ k ∧ k ≤ 4 ∧ Lib.indexByte [32, 98, 105, 117, 115] (t[1]?.getD 0) = k), ?_, ?_⟩
  · refine ⟨fun e => ?_, fun e => ?_, ?_⟩
    · rw [beq_t, decide_eq_true_iff] at e; omega
    · rw [beq_t, Bool.and_eq_true, decide_eq_true_iff] at e; omega
    cases hB : (decide ((t.length : Int) ≥ 3) && (((t[2]?.getD 0).toNat : Nat) : Int) == 62) with
    | false =>
      simp only [ff, cond_false]
      exact ⟨((vo, lt), false), 0, trivial, rfl, (by trivial), hlt, fun e => by cases e⟩
    | true =>
      rw [Bool.and_eq_true, decide_eq_true_iff] at hB
      simp only [tt, cond_true]
      refine (IndexByte_pure lt _).use1 ⟨_, rfl, ?_⟩
      rw [byte_back]
      cases hI : decide (Lib.indexByte lt (t[1]?.getD 0) ≥ 0) with
      | false =>
        simp only [ff, cond_false]
        exact ⟨((vo, lt), false), 0, trivial, rfl, (by trivial), hlt, fun e => by cases e⟩
      | true =>
        rw [decide_eq_true_iff] at hI
        simp only [tt, cond_true]
        refine (pass hA 3 (by omega)).mono ?_
        rintro v H' ⟨rfl, rfl⟩
        refine ⟨_, rfl, ((vo, lt), !melts x.so (s.drop (x.i + 3))), 0, trivial, rfl, rfl, hlt, fun e => ⟨by omega, ?_, letter_some' hlt hI⟩⟩
        simp only [Bool.not_eq_true'] at e; exact e
  rintro ⟨⟨vo', lt'⟩, b⟩ _ ⟨rfl, hlt', hb⟩
  simp only at hlt' hb ⊢
  cases b with
  | true =>
    obtain ⟨h3, hm, k, k1, k4, hk⟩ := hb rfl
    simp only [cond_true]
    have hk0 := hop k
    have w1 : IntKind.i64.wrap (x.op k + 1) = x.op k + 1 := wrap_i64 (by omega) (by omega)
    refine ⟨by omega, (IndexByte_pure _ _).use1 ⟨_, rfl, ?_⟩⟩
    rw [byte_back, hk]
    have e5 : 5 + ((k : Nat) : Int).toNat * 1 = 5 + k := by omega
    obtain ⟨H', w2, w3, w4, w5⟩ := hA.write (y := x.opn k 1) rfl rfl rfl (o := 5 + k) (vs := [.int .i64 (x.op k + 1)]) (by simp only [List.length_cons, List.length_nil]; omega) (by simp [AV.one]) (sop k 1 k1 k4)
    refine ⟨by omega, x.op k, by rw [e5]; exact rop k k1 k4, by omega, rfl, H', by rw [e5, w1]; exact w2, ?_⟩
    rw [hQ]
    refine PastK.yes (x := x) (y := x.opn k 1) (n := 3) (by decide) (by decide) (h.form (n := 3) h3 hm rfl rfl rfl rfl rfl (fun j => ?_) ⟨h.cols, by have := h.ncols; show x.cols.length ≤ _; omega⟩ h.lc nm sd ?_) ⟨_, _, _, _, w3⟩ (by rw [w4]; exact Nat.le_refl _) (fun c hc => w5 c (by omega)) rfl rfl rfl rfl
    · have hj := hop j
      show 0 ≤ (if j = k then x.op j + 1 else x.op j) ∧ (if j = k then x.op j + 1 else x.op j) ≤ _
      split <;> omega
    · rcases now_open hdx k1 k4 (hop k).1 with e | e
      · exact .inl e
      · exact .inr (.inr ⟨by decide, e⟩)
  | false =>
  simp only [cond_false]
  refine ⟨fun y H' => H = H' ∧ (y.2 = true → x.i + 4 ≤ s.length ∧ ∃ k : Nat, 1 ≤ k ∧ k ≤ 4 ∧ Lib.indexByte [32, 98, 105, 117, 115] (t[2]?.getD 0) = k), ?_, ?_⟩
  · refine ⟨fun e => ?_, fun e => ?_, fun e => ?_, ?_⟩
    · rw [beq_t, decide_eq_true_iff] at e; omega
    · rw [beq_t, Bool.and_eq_true, decide_eq_true_iff] at e; omega
    · rw [beq_t, Bool.and_eq_true, Bool.and_eq_true, decide_eq_true_iff] at e; omega
    cases hB : (decide ((t.length : Int) ≥ 4) && (((t[1]?.getD 0).toNat : Nat) : Int) == 47 && (((t[3]?.getD 0).toNat : Nat) : Int) == 62) with
    | false =>
      simp only [ff, cond_false]
      exact ⟨(vo', false), 0, trivial, rfl, (by trivial), fun e => by cases e⟩
    | true =>
      rw [Bool.and_eq_true, Bool.and_eq_true, decide_eq_true_iff] at hB
      simp only [tt, cond_true]
      refine (IndexByte_pure lt' _).use1 ⟨_, rfl, ?_⟩
      rw [byte_back]
      refine ⟨(vo', decide (Lib.indexByte lt' (t[2]?.getD 0) ≥ 0)), 0, trivial, rfl, (by trivial), fun e => ⟨by omega, ?_⟩⟩
      rw [decide_eq_true_iff] at e
      exact letter_some' hlt' e
  rintro ⟨vo2, b⟩ _ ⟨rfl, hb⟩
  simp only at hb ⊢
  cases b with
  | true =>
    obtain ⟨h4, k, k1, k4, hk⟩ := hb rfl
    simp only [cond_true]
    have hk0 := hop k
    have e5 : 5 + ((k : Nat) : Int).toNat * 1 = 5 + k := by omega
    refine ⟨by omega, (IndexByte_pure _ _).use1 ⟨_, rfl, ?_⟩⟩
    rw [byte_back, hk]
    refine ⟨fun y H' => H = H' ∧ y.1 = (k : Int) ∧ (y.2 = true → 0 < x.op k ∧ melts x.so (s.drop (x.i + 4)) = false), ⟨by omega, x.op k, by rw [e5]; exact rop k k1 k4, ?_⟩, ?_⟩
    · cases hP : decide (x.op k > 0) with
      | false =>
        simp only [ff, cond_false]
        exact ⟨((k : Int), false), 0, trivial, rfl, (by trivial), rfl, fun e => by cases e⟩
      | true =>
        rw [decide_eq_true_iff] at hP
        simp only [tt, cond_true]
        refine (pass hA 4 h4).mono ?_
        rintro v H' ⟨rfl, rfl⟩
        refine ⟨_, rfl, ((k : Int), !melts x.so (s.drop (x.i + 4))), 0, trivial, rfl, rfl, rfl, fun e => ⟨hP, ?_⟩⟩
        simp only [Bool.not_eq_true'] at e; exact e
    rintro ⟨k', b⟩ _ ⟨rfl, e, hb⟩
    simp only at e hb ⊢
    subst e
    cases b with
    | true =>
      obtain ⟨hP, hm⟩ := hb rfl
      simp only [cond_true]
      have w1 : IntKind.i64.wrap (x.op k - 1) = x.op k + -1 := by rw [wrap_i64 (by omega) (by omega)]; rfl
      obtain ⟨H', w2, w3, w4, w5⟩ := hA.write (y := x.opn k (-1)) rfl rfl rfl (o := 5 + k) (vs := [.int .i64 (x.op k + -1)]) (by simp only [List.length_cons, List.length_nil]; omega) (by simp [AV.one]) (sop k (-1) k1 k4)
      refine ⟨by omega, x.op k, by rw [e5]; exact rop k k1 k4, by omega, rfl, H', by rw [e5, w1]; exact w2, ?_⟩
      rw [hQ]
      refine PastK.yes (x := x) (y := x.opn k (-1)) (n := 4) (by decide) (by decide) (h.form (n := 4) h4 hm rfl rfl rfl rfl rfl (fun j => ?_) ⟨h.cols, by have := h.ncols; show x.cols.length ≤ _; omega⟩ h.lc nm sd (.inr (.inl (by decide)))) ⟨_, _, _, _, w3⟩ (by rw [w4]; exact Nat.le_refl _) (fun c hc => w5 c (by omega)) rfl rfl rfl rfl
      have hj := hop j
      show 0 ≤ (if j = k then x.op j + -1 else x.op j) ∧ (if j = k then x.op j + -1 else x.op j) ≤ _
      split
      · rename_i e; subst e; omega
      · omega
    | false =>
      simp only [cond_false]
      exact no hA (Nat.le_refl _) fun c _ => rfl
  | false =>
  simp only [cond_false]
  refine ⟨fun y H' => H = H' ∧ (3 ≤ y.1.length ∧ y.1.length ≤ 14) ∧ (1 ≤ y.2.1.length ∧ y.2.1.length ≤ 2) ∧ (4 ≤ y.2.2.length ∧ y.2.2.length ≤ 7), ?_, ?_⟩
  · cases vo2 with
    | true => simp only [cond_true]; exact ⟨([60, 99, 46], [62], [60, 47, 99, 62]), 0, trivial, rfl, (by trivial), by decide, by decide, by decide⟩
    | false => simp only [cond_false]; exact ⟨([60, 102, 111, 110, 116, 32, 99, 111, 108, 111, 114, 61, 34, 35], [34, 62], [60, 47, 102, 111, 110, 116, 62]), 0, trivial, rfl, (by trivial), by decide, by decide, by decide⟩
  rintro ⟨o, e, sh⟩ _ ⟨rfl, ho, he, hsh⟩
  simp only at ho he hsh ⊢
  cases hp : pre t o with
  | true =>
    have hol := pre_len hp
    refine (CutPrefix_yes t o hp).use1 ⟨_, _, rfl, ?_⟩
    simp only [cond_true]
    obtain ⟨u, hu⟩ : ∃ u, u = t.drop o.length := ⟨_, rfl⟩
    have ul : u.length = t.length - o.length := by rw [hu, List.length_drop]
    rw [← hu]
    refine (colour_S u false H).mono ?_
    rintro v H' ⟨c, g, rfl, hg, hn, ho'⟩
    have hA' : AtS H' p x qs qo qc cap := hA.keep hn fun b _ hb => ho' b hb
    have wn : IntKind.i64.wrap (IntKind.i64.wrap ((o.length : Int) + 6) + (e.length : Int)) = ((o.length + 6 + e.length : Nat) : Int) := by
      rw [wrap_i64 (n := (o.length : Int) + 6) (by omega) (by omega), wrap_i64 (by omega) (by omega)]; omega
    obtain ⟨n, hnn⟩ : ∃ n, n = o.length + 6 + e.length := ⟨_, rfl⟩
    rw [← hnn] at wn
    simp only [wn]
    refine ⟨c, g, rfl, fun y H'' => H' = H'' ∧ y.1 = c ∧ y.2.1 = (n : Int) ∧ (y.2.2 = true → (1 ≤ c ∧ c ≤ 16777216) ∧ x.i + n ≤ s.length ∧ melts x.so (s.drop (x.i + n)) = false), ⟨fun e => ?_, ?_⟩, ?_⟩
    · rw [beq_t] at e
      have := hg e; omega
    · cases g with
      | false =>
        simp only [ff, cond_false]
        exact ⟨(c, (n : Int), false), 0, trivial, rfl, (by trivial), rfl, rfl, fun e => by cases e⟩
      | true =>
        obtain ⟨g1, g2, g3⟩ := hg rfl
        simp only [tt, cond_true]
        refine (HasPrefix_pure _ _).use1 ⟨_, rfl, ?_⟩
        cases hpe : pre (List.take ((u.length : Int) - 6).toNat (List.drop 6 u)) e with
        | false =>
          simp only [ff, cond_false]
          exact ⟨(c, (n : Int), false), 0, trivial, rfl, (by trivial), rfl, rfl, fun e => by cases e⟩
        | true =>
          have hel := pre_len hpe
          rw [List.length_take, List.length_drop] at hel
          simp only [tt, cond_true]
          refine (pass hA' n (by omega)).mono ?_
          rintro v H'' ⟨rfl, rfl⟩
          refine ⟨_, rfl, (c, (n : Int), !melts x.so (s.drop (x.i + n))), 0, trivial, rfl, rfl, rfl, rfl, fun e => ⟨⟨g1, g2⟩, by omega, ?_⟩⟩
          simp only [Bool.not_eq_true'] at e; exact e
    rintro ⟨c', n', b⟩ _ ⟨rfl, e1, e2, hb⟩
    simp only at e1 e2 hb ⊢
    subst e1 e2
    cases b with
    | false =>
      simp only [cond_false]
      exact no hA' hn ho'
    | true =>
      obtain ⟨⟨g1, g2⟩, h3, hm⟩ := hb rfl
      simp only [cond_true]
      have hcl := h.ncols
      have rc' : H'.read1 p 10 = some (.slice (qc.map fun b => (b, 0)) x.cols.length cap) := by unfold AH.read1; rw [hA'.cells]; rfl
      obtain ⟨B, hB⟩ : ∃ B, B = H'.alloc (.cells [.int .i64 c'] 3 { whole := true }) := ⟨_, rfl⟩
      have bn : B.n = H'.n + 1 := by rw [hB]; rfl
      have bo : ∀ b, b < H'.n → B.get b = H'.get b := fun b hb => by rw [hB, AH.get_alloc, if_neg (by omega)]
      have bg : B.get H'.n = some (.cells [.int .i64 c'] 3 { whole := true }) := by rw [hB, AH.get_alloc, if_pos rfl]
      have hC : HasCols B qc cap x.cols := hA'.colours.same fun b hb => bo b (hA'.bc b hb).2
      obtain ⟨q', cap', H2, a1, a2, a3, a4, a5⟩ := append_col (c := c') hC (fun b hb => by have := hA'.bc b hb; omega) (c0 := H'.n) (fun e => by have := hA'.bc _ e; omega) bg (by omega)
      rw [← hB]
      have hlast : (x.cols ++ [c']).length = x.cols.length + 1 := by simp
      obtain ⟨H3, r1, r2, r3, r4⟩ := hA'.recol (H' := H2) (q' := q') (cap' := cap') (cols' := x.cols ++ [c']) (by omega) (fun b hb hq => by rw [a5 b (by omega) hq]; exact bo b hb) a2 (by
        rcases a4 with e | ⟨e, e'⟩
        · exact .inl e
        · exact .inr ⟨B.n, e, by omega, by omega⟩) (by omega)
      refine ⟨_, _, _, rc', by decide, _, _, _, H2, a1, rfl, H3, r1, ?_⟩
      rw [hQ]
      refine PastK.yes (x := x) (y := { x with cols := x.cols ++ [c'] }) (n := n) (by omega) (by omega) (h.form (n := n) h3 hm rfl rfl rfl rfl rfl (fun j => ?_) ⟨fun z hz => ?_, ?_⟩ h.lc nm sd (.inr (.inl (by omega)))) ⟨_, _, _, _, r2⟩ (by rw [r3]; omega) (fun b hb => ?_) rfl rfl rfl rfl
      · have := hop j
        show 0 ≤ x.op j ∧ x.op j ≤ _
        omega
      · rcases List.mem_append.1 hz with hz | hz
        · exact h.cols z hz
        · rw [List.mem_singleton.1 hz]; exact ⟨by omega, g2⟩
      · show (x.cols ++ [c']).length ≤ _
        omega
      · have := hA.lt
        rw [r4 b (by omega), a5 b (by omega) (fun e => by have := hA'.bc b e; omega), bo b (by omega)]
        exact ho' b (by omega)
  | false =>
    refine (CutPrefix_no t o hp).use1 ⟨_, _, rfl, ?_⟩
    simp only [cond_false]
    have rc' : H.read1 p 10 = some (.slice (qc.map fun b => (b, 0)) x.cols.length cap) := by rw [rC]; rfl
    refine ⟨fun y H' => H = H' ∧ y.1 = sh ∧ (y.2 = true → 0 < x.cols.length ∧ x.i + sh.length ≤ s.length ∧ melts x.so (s.drop (x.i + sh.length)) = false), ?_, ?_⟩
    · refine (HasPrefix_pure t sh).use1 ⟨_, rfl, _, _, _, rc', ?_⟩
      cases hB : (pre t sh && decide ((x.cols.length : Int) > 0)) with
      | false =>
        simp only [ff, cond_false]
        exact ⟨(sh, false), 0, trivial, rfl, (by trivial), rfl, fun e => by cases e⟩
      | true =>
        rw [Bool.and_eq_true, decide_eq_true_iff] at hB
        have hsl := pre_len hB.1
        simp only [tt, cond_true]
        refine (pass hA sh.length (by omega)).mono ?_
        rintro v H' ⟨rfl, rfl⟩
        refine ⟨_, rfl, (sh, !melts x.so (s.drop (x.i + sh.length))), 0, trivial, rfl, rfl, rfl, fun e => ⟨by omega, by omega, ?_⟩⟩
        simp only [Bool.not_eq_true'] at e; exact e
    rintro ⟨sh', b⟩ _ ⟨rfl, e1, hb⟩
    simp only at e1 hb ⊢
    subst e1
    cases b with
    | false =>
      simp only [cond_false]
      exact no hA (Nat.le_refl _) fun c _ => rfl
    | true =>
      obtain ⟨c0, h3, hm⟩ := hb rfl
      simp only [cond_true]
      have hcl := h.ncols
      have wl : IntKind.i64.wrap ((x.cols.length : Int) - 1) = (x.cols.length : Int) - 1 := wrap_i64 (by omega) (by omega)
      have hdl : x.cols.dropLast.length = x.cols.length - 1 := List.length_dropLast
      have hce : ∃ b0, qc = some b0 := by
        have := hA.colours
        cases qc with
        | some b0 => exact ⟨b0, rfl⟩
        | none => rw [this.2] at c0; simp at c0
      obtain ⟨b0, hb0⟩ := hce
      have hCo := hA.colours
      rw [hb0] at hCo
      obtain ⟨rest, c1, c2⟩ := hCo
      have hsplit : x.cols ++ rest = x.cols.dropLast ++ (x.cols.getLast (fun e => by rw [e] at c0; simp at c0) :: rest) := by
        conv => lhs; rw [← List.dropLast_concat_getLast (l := x.cols) (fun e => by rw [e] at c0; simp at c0)]
        simp
      obtain ⟨H3, r1, r2, r3, r4⟩ := hA.recol (H' := H) (q' := qc) (cap' := cap) (cols' := x.cols.dropLast) (Nat.le_refl _) (fun b _ _ => rfl) (by rw [hb0]; exact ⟨_, by rw [← hsplit]; exact c1, by rw [← hsplit]; exact c2⟩) (.inl rfl) (by omega)
      have hcap : x.cols.length ≤ cap := by rw [c2]; simp
      have u1 : Tryd.prog.underlying 58 = some (.slice 3) := by kernel_rfl
      have u2 : szOf Tryd.prog 3 = some 1 := by kernel_rfl
      have hslc : sliceV Tryd.prog H 58 (.slice (qc.map fun b => (b, 0)) x.cols.length cap) none (some (.int .i64 ((x.cols.length : Int) - 1))) none = some (.slice (qc.map fun b => (b, 0)) x.cols.dropLast.length cap) := by
        have en : ((x.cols.length : Int) - 1).toNat = x.cols.length - 1 := by omega
        rw [hb0]
        unfold sliceV
        simp only [u1, u2, idxV, Option.bind_some, Option.map_some]
        rw [if_pos (show (0 : Int) ≤ (x.cols.length : Int) - 1 by omega), en]
        simp only [Option.bind_some]
        rw [if_pos ⟨Nat.zero_le _, by omega, Nat.le_refl _, fun e => by cases e⟩]
        simp [hdl]
      refine ⟨_, _, _, rc', _, _, _, rc', _, _, _, (congrArg (fun z => sliceV Tryd.prog H 58 (.slice (qc.map fun b => (b, 0)) x.cols.length cap) none (some (.int .i64 z)) none) wl).trans hslc, rfl, H3, r1, ?_⟩
      rw [hQ]
      refine PastK.yes (x := x) (y := { x with cols := x.cols.dropLast }) (n := sh'.length) (by omega) (by omega) (h.form (n := sh'.length) h3 hm rfl rfl rfl rfl rfl (fun j => ?_) ⟨fun z hz => ?_, ?_⟩ h.lc nm sd (.inr (.inl (by omega)))) ⟨_, _, _, _, r2⟩ (by rw [r3]; exact Nat.le_refl _) (fun b hb => r4 b (by omega)) rfl rfl rfl rfl
      · have := hop j
        show 0 ≤ x.op j ∧ x.op j ≤ _
        omega
      · exact h.cols z (List.dropLast_subset _ hz)
      · show x.cols.dropLast.length ≤ _
        omega
end Go.Proofs.YtlkdhhkncoekgaaDoor
end

/- A tag between two texts. -/
import Derived.Test.YtlkdhhkncoekgaaDoorParseS

/- A tag between two texts: what mark.Parse makes of it. -/
section
namespace Go.Proofs.YtlkdhhkncoekgaaDoor
open Go.Am Go

/-- The first signs of a text, as pieces of one look. -/
def pl (s : List UInt8) (m : Nat) (a : Look) : List (List UInt8 × Look) := (List.range m).map fun j => ((s.drop (place s j)).take (decodeL s (place s j)).2, a)
theorem pl_succ (s : List UInt8) (m : Nat) (a : Look) : pl s (m + 1) a = pl s m a ++ [((s.drop (place s m)).take (decodeL s (place s m)).2, a)] := by
  unfold pl; rw [List.range_succ, List.map_append]; rfl
theorem pl_length (s : List UInt8) (m : Nat) (a : Look) : (pl s m a).length = m := by simp [pl]
theorem pl_looks (s : List UInt8) (m : Nat) (a : Look) : (pl s m a).map Prod.snd = List.replicate m a := by
  induction m with
  | zero => rfl
  | succ m ih => rw [pl_succ, List.map_append, ih, List.replicate_succ']; rfl
theorem pl_flat (s : List UInt8) (m : Nat) (a : Look) : ((pl s m a).map Prod.fst).flatten = s.take (place s m) := by
  induction m with
  | zero => simp [pl, place]
  | succ m ih =>
    rw [pl_succ, List.map_append, List.flatten_append, ih, place_step, List.take_add]
    simp
theorem pl_ne {s : List UInt8} {m : Nat} {a : Look} (h : ∀ j, j < m → place s j < s.length) : ∀ p ∈ pl s m a, p.1 ≠ [] := by
  intro p hp e
  obtain ⟨j, hj, rfl⟩ := List.mem_map.1 hp
  have hj' := h j (List.mem_range.1 hj)
  have h1 := decodeL_size s _ hj'
  have := congrArg List.length e
  simp only [List.length_take, List.length_drop, List.length_nil] at this
  omega

/-- A scanner that has read m signs of the part b of u, b, v, which all look alike. -/
structure Stage (d : Int) (u b v a0 : List UInt8) (p0 : List (List UInt8 × Look)) (op : Nat → Int) (look : Look) (m : Nat) (x : St) : Prop where
  d : x.d = d
  s : x.s = u ++ (b ++ v)
  i : x.i = u.length + place b m
  so : x.so = a0 ++ b.take (place b m)
  ps : x.ps = p0 ++ pl b m look
  op : x.op = op
  cols : x.cols = []
  look : x.look = noLook
  name : x.name = []
  side : x.side = 0

theorem Stage.sgn {d : Int} {u b v a0 : List UInt8} {p0 : List (List UInt8 × Look)} {op : Nat → Int} {look : Look} {m : Nat} {x : St} (h : Stage d u b v a0 p0 op look m x) (hm : melts b v = false) (hl : place b m < b.length) :
    x.sgn = (b.drop (place b m)).take (decodeL b (place b m)).2 := by
  unfold St.sgn
  have hsz := decodeL_size b _ hl
  have e1 : decodeL x.s x.i = decodeL b (place b m) := by
    rw [h.s, h.i, decodeL_back, ← decodeL_front hl (melts_no hm hl)]
  rw [e1, h.s, h.i, List.drop_append, List.drop_of_length_le (by omega), List.nil_append, show u.length + place b m - u.length = place b m by omega, List.drop_append_of_le_length (by omega),
    List.take_append_of_le_length (by rw [List.length_drop]; omega)]

theorem Stage.signed {d : Int} {u b v a0 : List UInt8} {p0 : List (List UInt8 × Look)} {op : Nat → Int} {look : Look} {m : Nat} {x : St} (h : Stage d u b v a0 p0 op look m x) (hm : melts b v = false) (hl : place b m < b.length) (hn : x.now = look) :
    Stage d u b v a0 p0 op look (m + 1) x.signed := by
  have hg := h.sgn hm hl
  have hsz := decodeL_size b _ hl
  have hlen : x.sgn.length = (decodeL b (place b m)).2 := by rw [hg, List.length_take, List.length_drop]; omega
  refine ⟨h.d, h.s, ?_, ?_, ?_, h.op, h.cols, h.look, h.name, h.side⟩
  · show x.i + x.sgn.length = _
    rw [hlen, h.i, place_step]; omega
  · show x.so ++ x.sgn = _
    rw [hg, h.so, place_step, List.take_add, List.append_assoc]
  · show x.ps ++ [(x.sgn, x.now)] = _
    rw [hg, hn, h.ps, pl_succ, List.append_assoc]

def bold : Look := ⟨true, false, false, false, 0⟩
def zeroOp : Nat → Int := fun _ => 0
def boldOp : Nat → Int := fun j => if j = 1 then 1 else 0
theorem now_zero {x : St} (h1 : x.op = zeroOp) (h2 : x.cols = []) (h3 : x.look = noLook) : x.now = noLook := by
  unfold St.now
  rw [h1, h2, h3]
  cases (x.d == 1 || x.d == 2) <;> rfl
theorem now_bold {x : St} (hd : x.d = 1 ∨ x.d = 2) (h1 : x.op = boldOp) (h2 : x.cols = []) : x.now = bold := by
  unfold St.now
  have : (x.d == 1 || x.d == 2) = true := by rcases hd with h | h <;> rw [h] <;> rfl
  rw [h1, h2, this]
  rfl

theorem turn_sign {R : St → Prop} {d : Int} {s : List UInt8} {x : St} (hd : d = 1 ∨ d = 2) (h60 : (s[x.i]?.getD 0) ≠ 60) (h38 : (s[x.i]?.getD 0) ≠ 38) (h : R x.signed) : Turn R d s x := by
  unfold Turn
  have e1 : ((((s[x.i]?.getD 0).toNat : Nat) : Int) == 60) = false := by rw [beq_eq_false_iff_ne]; intro e; exact h60 (UInt8.toNat_inj.1 (by show _ = 60; omega))
  have e2 : ((((s[x.i]?.getD 0).toNat : Nat) : Int) == 38) = false := by rw [beq_eq_false_iff_ne]; intro e; exact h38 (UInt8.toNat_inj.1 (by show _ = 38; omega))
  have e3 : (d == (3 : Int)) = false := by rcases hd with rfl | rfl <;> rfl
  have e4 : (d == (4 : Int)) = false := by rcases hd with rfl | rfl <;> rfl
  rw [e1, e2, e3, e4]
  simp only [Bool.and_false, Bool.false_and, cond_false]
  exact h
theorem turn_angle {R : St → Prop} {d : Int} {s : List UInt8} {x : St} (hd : d = 1 ∨ d = 2) (h60 : (s[x.i]?.getD 0) = 60) (h : Past R 23 x) : Turn R d s x := by
  unfold Turn
  have e1 : ((((s[x.i]?.getD 0).toNat : Nat) : Int) == 60) = true := by rw [h60]; rfl
  have e3 : (d == (1 : Int) || d == (2 : Int)) = true := by rcases hd with rfl | rfl <;> rfl
  rw [e1, e3]
  exact h

/-- A tag of one letter, as a turn. -/
theorem past_open {R : St → Prop} {x : St} {c : UInt8} {k : Nat} {r : List UInt8} (ht : x.s.drop x.i = 60 :: c :: 62 :: r) (hk : letter c k) (hs : x.s.length ≤ 4194304) (ho : x.so.length ≤ 8192) (hop : -5000000 ≤ x.op k ∧ x.op k ≤ 5000000)
    (h : bif melts x.so (x.s.drop (x.i + 3)) then R x.signed else R ((x.opn k 1).skip 3)) : Past R 23 x := by
  cases hm : melts x.so (x.s.drop (x.i + 3)) with
  | true =>
    rw [hm] at h
    refine ⟨0, x, fun H p qs qo qc cap hA => ?_, by decide, rfl, rfl, rfl, rfl, h⟩
    refine (angle_open hA ht hk hs ho hop).mono ?_
    rintro v H' ⟨rfl, h1, h2, h3⟩
    rw [hm] at h1
    exact ⟨by rw [hm]; rfl, ⟨qc, cap, h1⟩, by omega, fun c hc => h3 c (by omega)⟩
  | false =>
    rw [hm] at h
    refine ⟨3, x.opn k 1, fun H p qs qo qc cap hA => ?_, by decide, rfl, rfl, rfl, h⟩
    refine (angle_open hA ht hk hs ho hop).mono ?_
    rintro v H' ⟨rfl, h1, h2, h3⟩
    rw [hm] at h1
    exact ⟨by rw [hm]; rfl, ⟨qc, cap, h1⟩, by omega, fun c hc => h3 c (by omega)⟩

/-! Two looks make one span at most. -/
theorem upTo_const {g : Nat → Bool} {n : Nat} : ∀ (k : Nat) {j e : Nat}, k = e - j → j ≤ e → e ≤ n → (∀ i, j ≤ i → i < e → g i = true) → upTo g n j = upTo g n e
  | 0, j, e, hk, h1, h2, h => by obtain rfl : j = e := by omega
                                 rfl
  | k + 1, j, e, hk, h1, h2, h => by
    rw [upTo_go (by omega) (h j (Nat.le_refl j) (by omega))]
    exact upTo_const k (by omega) (by omega) h2 fun i hi => h i (by omega)
theorem spansAt_zero {val : Nat → Int} {cut : Nat → Bool} {n : Nat} {k : Int} (h : ∀ i, i < n → val i = 0) : ∀ (d : Nat) {i : Nat}, d = n - i → spansAt val cut n k i = [] := by
  intro d
  induction d using Nat.strongRecOn with
  | ind d ih =>
    intro i hd
    rcases Nat.lt_or_ge i n with hi | hi
    · have := upTo_bounds (g := alike val cut i) (n := n) (j := i + 1) (by omega)
      rw [spansAt_go hi, ih (n - upTo (alike val cut i) n (i + 1)) (by omega) rfl]
      unfold span1
      rw [if_pos (h i hi)]; rfl
    · exact spansAt_end hi
theorem span1_le (val : Nat → Int) (k : Int) (i j : Nat) : (span1 val k i j).length ≤ 1 := by unfold span1; split <;> simp
/-- One value up to the end. -/
theorem spansAt_const {val : Nat → Int} {n : Nat} {k c : Int} {i : Nat} (h : ∀ j, i ≤ j → j < n → val j = c) : (spansAt val (fun _ => false) n k i).length ≤ 1 := by
  rcases Nat.lt_or_ge i n with hi | hi
  · have e : upTo (alike val (fun _ => false) i) n (i + 1) = n := by
      rw [upTo_const (n - (i + 1)) (e := n) rfl (by omega) (Nat.le_refl n) fun j h1 h2 => by
        unfold alike; rw [h j (by omega) h2, h i (Nat.le_refl i) hi]; simp]
      exact upTo_end (Nat.le_refl n)
    rw [spansAt_go hi, e, spansAt_end (Nat.le_refl n), List.append_nil]
    exact span1_le _ _ _ _
  · rw [spansAt_end hi]; simp

theorem spans_two (n m : Nat) : (spans (List.replicate n noLook ++ List.replicate m bold)).length ≤ 1 := by
  obtain ⟨L, hL⟩ : ∃ L, L = List.replicate n noLook ++ List.replicate m bold := ⟨_, rfl⟩
  have hlen : L.length = n + m := by rw [hL]; simp
  have hget : ∀ i, i < L.length → L[i]? = some (if i < n then noLook else bold) := by
    intro i hi
    rw [hL]
    by_cases h : i < n
    · rw [if_pos h, List.getElem?_append_left (by simpa using h), List.getElem?_replicate, if_pos h]
    · rw [if_neg h, List.getElem?_append_right (by simpa using h), List.getElem?_replicate, List.length_replicate, if_pos (by omega)]
  have hval : ∀ k : Int, k ≠ 1 → ∀ i, i < L.length → val L k i = 0 := by
    intro k hk i hi
    unfold val
    rw [hget i hi]
    by_cases h : i < n
    · rw [if_pos h]; simp [Look.get, noLook, one01]
    · rw [if_neg h]; simp [Look.get, bold, one01, hk]
  have v1 : ∀ i, i < L.length → val L 1 i = if i < n then 0 else 1 := by
    intro i hi
    unfold val
    rw [hget i hi]
    by_cases h : i < n
    · rw [if_pos h, if_pos h]; rfl
    · rw [if_neg h, if_neg h]; rfl
  have hz : ∀ k cut, k ≠ 1 → spansAt (val L k) cut L.length k 0 = [] := fun k cut hk => spansAt_zero (hval k hk) (L.length - 0) rfl
  have h1 : (spansAt (val L 1) (fun _ => false) L.length 1 0).length ≤ 1 := by
    rcases Nat.eq_zero_or_pos n with rfl | hn
    · refine spansAt_const (c := 1) fun j _ hj => ?_
      rw [v1 j hj, if_neg (by omega)]
    · have e : upTo (alike (val L 1) (fun _ => false) 0) L.length (0 + 1) = n := by
        rw [upTo_const (n - 1) (e := n) rfl (by omega) (by omega) fun j h1 h2 => by
          unfold alike; rw [v1 j (by omega), v1 0 (by omega), if_pos h2, if_pos hn]; rfl]
        rcases Nat.eq_zero_or_pos m with rfl | hm
        · exact upTo_end (by omega)
        · refine upTo_stop (by omega) ?_
          unfold alike; rw [v1 n (by omega), v1 0 (by omega), if_neg (by omega), if_pos hn]; rfl
      rw [spansAt_go (by omega), e]
      have : span1 (val L 1) 1 0 n = [] := by unfold span1; rw [v1 0 (by omega), if_pos hn, if_pos rfl]
      rw [this, List.nil_append]
      exact spansAt_const (c := 1) fun j h1 hj => by rw [v1 j hj, if_neg (by omega)]
  rw [← hL]
  show ((((((([] : List Spn) ++ spansAt (val L (0 + 1 : Nat)) _ L.length (0 + 1 : Nat) 0) ++ spansAt (val L (1 + 1 : Nat)) _ L.length (1 + 1 : Nat) 0) ++ spansAt (val L (2 + 1 : Nat)) _ L.length (2 + 1 : Nat) 0) ++ spansAt (val L (3 + 1 : Nat)) _ L.length (3 + 1 : Nat) 0) ++ spansAt (val L (4 + 1 : Nat)) _ L.length (4 + 1 : Nat) 0)).length ≤ 1
  rw [hz (1 + 1 : Nat) _ (by decide), hz (2 + 1 : Nat) _ (by decide), hz (3 + 1 : Nat) _ (by decide), hz (4 + 1 : Nat) _ (by decide)]
  simp only [List.append_nil, List.nil_append]
  exact h1
end Go.Proofs.YtlkdhhkncoekgaaDoor
end

/- mark.Parse of two texts with a tag between them; whether a sign of both begins where the second one begins. -/
section
namespace Go.Proofs.YtlkdhhkncoekgaaDoor
open Go.Am Go

theorem tag_at {a b : List UInt8} (ha : ∀ i : Nat, a[i]?.getD 0 ≠ 60 ∧ a[i]?.getD 0 ≠ 38) (hb : ∀ i : Nat, b[i]?.getD 0 ≠ 60 ∧ b[i]?.getD 0 ≠ 38) (i : Nat) (hi : i ≠ a.length) : (a ++ [60, 98, 62] ++ b)[i]?.getD 0 ≠ 60 ∧ (a ++ [60, 98, 62] ++ b)[i]?.getD 0 ≠ 38 := by
  rcases Nat.lt_or_ge i a.length with h | h
  · rw [List.append_assoc, List.getElem?_append_left h]; exact ha i
  · rw [List.append_assoc, List.getElem?_append_right h]
    obtain ⟨j, rfl⟩ : ∃ j, i = a.length + (j + 1) := ⟨i - a.length - 1, by omega⟩
    rw [show a.length + (j + 1) - a.length = j + 1 by omega]
    match j with
    | 0 => show (98 : UInt8) ≠ 60 ∧ (98 : UInt8) ≠ 38; decide
    | 1 => show (62 : UInt8) ≠ 60 ∧ (62 : UInt8) ≠ 38; decide
    | j + 2 => exact hb j
theorem tag_drop (a b : List UInt8) : (a ++ [60, 98, 62] ++ b).drop a.length = 60 :: 98 :: 62 :: b := by
  rw [List.append_assoc, List.drop_left]; rfl
theorem tag_drop3 (a b : List UInt8) : (a ++ [60, 98, 62] ++ b).drop (a.length + 3) = b := by
  rw [show a.length + 3 = (a ++ [60, 98, 62]).length by simp, List.drop_left]

theorem pl_c {s : List UInt8} {m : Nat} {a : Look} (h : a.c = 0) : ∀ p ∈ pl s m a, 0 ≤ p.2.c ∧ p.2.c ≤ 16777216 := by
  intro p hp
  obtain ⟨j, _, rfl⟩ := List.mem_map.1 hp
  show 0 ≤ a.c ∧ a.c ≤ 16777216
  rw [h]; decide

theorem laidOut_of {x : St} (hne : ∀ p ∈ x.ps, p.1 ≠ []) (hl : ((x.ps.map Prod.fst).flatten).length ≤ 4096) (hsn : SignsN (x.ps.map Prod.fst).flatten x.ps.length) (hc : ∀ p ∈ x.ps, 0 ≤ p.2.c ∧ p.2.c ≤ 16777216)
    (h1 : (spans (x.ps.map Prod.snd)).length ≤ 1) : LaidOut x 0 (x.ps.map Prod.fst).flatten (spans (x.ps.map Prod.snd)) :=
  fun _ _ hq hqb => laid_S x.ps hne hl hsn hc (sorts_small h1) (by omega) hq hqb

theorem seam_parse (d : Int) (hd : d = 1 ∨ d = 2) (a b : List UInt8) (la : a.length ≤ 1000) (lb : b.length ≤ 1000) (ha : ∀ i : Nat, a[i]?.getD 0 ≠ 60 ∧ a[i]?.getD 0 ≠ 38) (hb : ∀ i : Nat, b[i]?.getD 0 ≠ 60 ∧ b[i]?.getD 0 ≠ 38) (H : AH) :
    ACallee Tryd.prog 12 [.int .i64 d, .str (a ++ [60, 98, 62] ++ b)] H fun v H' => ∃ sp, MarkRes H (bif melts a b then a ++ [60, 98, 62] ++ b else a ++ b) sp [] 0 0 v H' := by
  obtain ⟨s, hs⟩ : ∃ s, s = a ++ [60, 98, 62] ++ b := ⟨_, rfl⟩
  have hlen : s.length = a.length + 3 + b.length := by rw [hs]; simp; omega
  have hat := tag_at ha hb
  have hdr := tag_drop a b
  have hdr3 := tag_drop3 a b
  have h60 : s[a.length]?.getD 0 = 60 := by
    rw [hs, List.append_assoc, List.getElem?_append_right (Nat.le_refl _), Nat.sub_self]; rfl
  rw [← hs] at hat hdr hdr3 ⊢
  have hpre : pre s [60, 118, 32] = false := by
    rcases Nat.eq_zero_or_pos a.length with h | h
    · have : a = [] := List.length_eq_zero_iff.1 h
      refine pre_no 1 (by decide) ?_
      rw [hs, this]; simp
    · refine pre_no 0 (by decide) ?_
      intro e
      have := (hat 0 (by omega)).1
      rw [e] at this
      exact this rfl
  have fin : ∀ {X : List UInt8} {v : AV} {H' : AH}, (∃ e S sp nm sd, (e = 0 ∧ S = X ∧ nm = [] ∧ sd = 0) ∧ MarkRes H S sp nm sd e v H') → ∃ sp, MarkRes H X sp [] 0 0 v H' := by
    rintro X v H' ⟨e, S, sp, nm, sd, ⟨rfl, rfl, rfl, rfl⟩, h⟩
    exact ⟨sp, h⟩
  cases hM : melts a b with
  | true =>
    simp only [cond_true]
    obtain ⟨ns, hns⟩ := SignsN.ex s
    have hns4 : ns ≤ s.length := by have := place_ge hns.2; have := hns.1; omega
    have hsm : melts s [] = false := melts_nil_right s
    obtain ⟨R, hR⟩ : ∃ R : St → Prop, R = fun x => ∃ m, m ≤ ns ∧ Stage d [] s [] [] [] zeroOp noLook m x := ⟨_, rfl⟩
    have hxs : ∀ {x : St} {m : Nat}, Stage d [] s [] [] [] zeroOp noLook m x → x.s = s ∧ x.i = place s m ∧ x.so = s.take (place s m) := fun h => by
      refine ⟨by rw [h.s]; simp, by rw [h.i]; simp, by rw [h.so]; simp⟩
    have hpl : ∀ m, m ≤ ns → place s m ≤ s.length := fun m hm => by
      rcases Nat.lt_or_ge m ns with h | h
      · exact Nat.le_of_lt (hns.2 m h)
      · obtain rfl : m = ns := by omega
        exact Nat.le_of_eq hns.1
    have more : ∀ {x : St} {m : Nat}, Stage d [] s [] [] [] zeroOp noLook m x → m ≤ ns → x.i < s.length → R x.signed := by
      intro x m h hm hl
      rw [hR]
      obtain ⟨e1, e2, e3⟩ := hxs h
      have hmn : m < ns := by
        rcases Nat.lt_or_ge m ns with g | g
        · exact g
        · obtain rfl : m = ns := by omega
          have := hns.1; omega
      exact ⟨m + 1, hmn, h.signed hsm (by omega) (now_zero h.op h.cols h.look)⟩
    refine (Parse_S R (fun e S _ nm sd => e = 0 ∧ S = s ∧ nm = [] ∧ sd = 0) d s (by omega) (by omega) ?_ (fun _ => hpre) ?_ ?_ ?_ ?_ H).mono fun v H' h => fin h
    · intro x hx
      rw [hR] at hx
      obtain ⟨m, hm, h⟩ := hx
      obtain ⟨e1, e2, e3⟩ := hxs h
      have := hpl m hm
      refine ⟨h.d, e1, by omega, by rw [e3, List.length_take]; omega, by rw [h.ps, List.nil_append, pl_length]; omega⟩
    · rw [hR]
      exact ⟨0, Nat.zero_le _, rfl, by simp [St.start], rfl, by simp [St.start, place], rfl, rfl, rfl, rfl, rfl, rfl⟩
    · intro x hx hl _
      have hx' := hx
      rw [hR] at hx'
      obtain ⟨m, hm, h⟩ := hx'
      obtain ⟨e1, e2, e3⟩ := hxs h
      have hsg := more h hm hl
      by_cases hi : x.i = a.length
      · refine turn_angle hd (by rw [hi]; exact h60) (past_open (c := 98) (k := 1) (r := b) (by rw [e1, hi, hdr]) (.inl ⟨rfl, rfl⟩) (by rw [e1]; omega) (by rw [e3, List.length_take]; omega) (by rw [h.op]; exact ⟨by decide, by decide⟩) ?_)
        have so : x.so = a := by rw [e3, ← e2, hi, hs, List.append_assoc, List.take_left]
        rw [so, e1, hi, hdr3, hM]
        exact hsg
      · exact turn_sign hd (hat _ hi).1 (hat _ hi).2 hsg
    · intro x hx _ h4
      exfalso
      rw [hR] at hx
      obtain ⟨m, hm, h⟩ := hx
      obtain ⟨e1, e2, e3⟩ := hxs h
      rw [e3, List.length_take] at h4
      omega
    · intro x hx hl
      rw [hR] at hx
      obtain ⟨m, hm, h⟩ := hx
      obtain ⟨e1, e2, e3⟩ := hxs h
      obtain rfl : m = ns := by
        rcases Nat.lt_or_ge m ns with g | g
        · have := hns.2 m g; omega
        · omega
      have hps : x.ps = pl s m noLook := by rw [h.ps]; rfl
      have hfl : (x.ps.map Prod.fst).flatten = s := by rw [hps, pl_flat, hns.1, List.take_length]
      have hlo := laidOut_of (x := x) (by rw [hps]; exact pl_ne hns.2) (by rw [hfl]; omega) (by rw [hfl, hps, pl_length]; exact hns)
        (by rw [hps]; exact pl_c rfl)
        (by rw [hps, pl_looks]; have := spans_two m 0; simpa using this)
      rw [hfl] at hlo
      exact ⟨0, _, _, hlo, rfl, rfl, h.name, h.side⟩
  | false =>
    simp only [cond_false]
    obtain ⟨na, hna⟩ := SignsN.ex a
    obtain ⟨nb, hnb⟩ := SignsN.ex b
    have hna4 : na ≤ a.length := by have := place_ge hna.2; have := hna.1; omega
    have hnb4 : nb ≤ b.length := by have := place_ge hnb.2; have := hnb.1; omega
    have m1 : melts a ([60, 98, 62] ++ b) = false := melts_ascii fun c hc => by simp at hc; rw [← hc]; decide
    have m2 : melts b [] = false := melts_nil_right b
    have hpl : ∀ {t : List UInt8} {n : Nat}, SignsN t n → ∀ m, m ≤ n → place t m ≤ t.length := fun {t n} hn m hm => by
      rcases Nat.lt_or_ge m n with h | h
      · exact Nat.le_of_lt (hn.2 m h)
      · obtain rfl : m = n := by omega
        exact Nat.le_of_eq hn.1
    obtain ⟨R1, hR1⟩ : ∃ R1 : St → Prop, R1 = fun x => ∃ m, m ≤ na ∧ Stage d [] a ([60, 98, 62] ++ b) [] [] zeroOp noLook m x := ⟨_, rfl⟩
    obtain ⟨R2, hR2⟩ : ∃ R2 : St → Prop, R2 = fun x => ∃ m, m ≤ nb ∧ Stage d (a ++ [60, 98, 62]) b [] a (pl a na noLook) boldOp bold m x := ⟨_, rfl⟩
    have f1 : ∀ {x : St} {m : Nat}, Stage d [] a ([60, 98, 62] ++ b) [] [] zeroOp noLook m x → x.s = s ∧ x.i = place a m ∧ x.so = a.take (place a m) := fun h => by
      refine ⟨by rw [h.s, hs]; simp, by rw [h.i]; simp, by rw [h.so]; simp⟩
    have f2 : ∀ {x : St} {m : Nat}, Stage d (a ++ [60, 98, 62]) b [] a (pl a na noLook) boldOp bold m x → x.s = s ∧ x.i = a.length + 3 + place b m ∧ x.so = a ++ b.take (place b m) := fun h => by
      refine ⟨by rw [h.s, hs]; simp, by rw [h.i]; simp, h.so⟩
    refine (Parse_S (fun x => R1 x ∨ R2 x) (fun e S _ nm sd => e = 0 ∧ S = a ++ b ∧ nm = [] ∧ sd = 0) d s (by omega) (by omega) ?_ (fun _ => hpre) ?_ ?_ ?_ ?_ H).mono fun v H' h => fin h
    · rintro x (hx | hx)
      · rw [hR1] at hx
        obtain ⟨m, hm, h⟩ := hx
        obtain ⟨e1, e2, e3⟩ := f1 h
        have := hpl hna m hm
        refine ⟨h.d, e1, by omega, by rw [e3, List.length_take]; omega, by rw [h.ps, List.nil_append, pl_length]; omega⟩
      · rw [hR2] at hx
        obtain ⟨m, hm, h⟩ := hx
        obtain ⟨e1, e2, e3⟩ := f2 h
        have := hpl hnb m hm
        refine ⟨h.d, e1, by omega, by rw [e3, List.length_append, List.length_take]; omega, by rw [h.ps, List.length_append, pl_length, pl_length]; omega⟩
    · left
      rw [hR1]
      exact ⟨0, Nat.zero_le _, rfl, by simp [St.start, hs], rfl, by simp [St.start, place], rfl, rfl, rfl, rfl, rfl, rfl⟩
    · rintro x (hx | hx) hl _
      · rw [hR1] at hx
        obtain ⟨m, hm, h⟩ := hx
        obtain ⟨e1, e2, e3⟩ := f1 h
        rcases Nat.lt_or_ge m na with g | g
        · have hp := hna.2 m g
          refine turn_sign hd (hat _ (by omega)).1 (hat _ (by omega)).2 (.inl ?_)
          rw [hR1]
          exact ⟨m + 1, g, h.signed m1 hp (now_zero h.op h.cols h.look)⟩
        · obtain rfl : m = na := by omega
          have hi : x.i = a.length := by rw [e2]; exact hna.1
          have so : x.so = a := by rw [e3, hna.1, List.take_length]
          refine turn_angle hd (by rw [hi]; exact h60) (past_open (c := 98) (k := 1) (r := b) (by rw [e1, hi, hdr]) (.inl ⟨rfl, rfl⟩) (by rw [e1]; omega) (by rw [so]; omega) (by rw [h.op]; exact ⟨by decide, by decide⟩) ?_)
          rw [so, e1, hi, hdr3, hM]
          right
          rw [hR2]
          refine ⟨0, Nat.zero_le _, h.d, ?_, ?_, ?_, ?_, ?_, h.cols, h.look, h.name, h.side⟩
          · show x.s = _; rw [e1, hs]; simp
          · show x.i + 3 = _; rw [hi]; simp [place]
          · show x.so = _; rw [so]; simp [place]
          · show x.ps = _; rw [h.ps]; simp [pl]
          · show (fun j => if j = 1 then x.op j + 1 else x.op j) = boldOp
            rw [h.op]; rfl
      · rw [hR2] at hx
        obtain ⟨m, hm, h⟩ := hx
        obtain ⟨e1, e2, e3⟩ := f2 h
        have hp : place b m < b.length := by omega
        have hmn : m < nb := by
          rcases Nat.lt_or_ge m nb with g | g
          · exact g
          · obtain rfl : m = nb := by omega
            have := hnb.1; omega
        refine turn_sign hd (hat _ (by omega)).1 (hat _ (by omega)).2 (.inr ?_)
        rw [hR2]
        exact ⟨m + 1, hmn, h.signed m2 hp (now_bold (by rw [h.d]; exact hd) h.op h.cols)⟩
    · rintro x (hx | hx) _ h4
      · exfalso
        rw [hR1] at hx
        obtain ⟨m, hm, h⟩ := hx
        obtain ⟨e1, e2, e3⟩ := f1 h
        rw [e3, List.length_take] at h4
        omega
      · exfalso
        rw [hR2] at hx
        obtain ⟨m, hm, h⟩ := hx
        obtain ⟨e1, e2, e3⟩ := f2 h
        rw [e3, List.length_append, List.length_take] at h4
        omega
    · rintro x (hx | hx) hl
      · exfalso
        rw [hR1] at hx
        obtain ⟨m, hm, h⟩ := hx
        obtain ⟨e1, e2, e3⟩ := f1 h
        have := hpl hna m hm
        omega
      · rw [hR2] at hx
        obtain ⟨m, hm, h⟩ := hx
        obtain ⟨e1, e2, e3⟩ := f2 h
        obtain rfl : m = nb := by
          rcases Nat.lt_or_ge m nb with g | g
          · have := hnb.2 m g; omega
          · omega
        have hps : x.ps = pl a na noLook ++ pl b m bold := h.ps
        have hfl : (x.ps.map Prod.fst).flatten = a ++ b := by rw [hps, List.map_append, List.flatten_append, pl_flat, pl_flat, hna.1, hnb.1, List.take_length, List.take_length]
        have hlo := laidOut_of (x := x)
          (by rw [hps]; exact fun p hp => (List.mem_append.1 hp).elim (pl_ne hna.2 p) (pl_ne hnb.2 p))
          (by rw [hfl, List.length_append]; omega) (by rw [hfl, hps, List.length_append, pl_length, pl_length]; exact SignsN.append hM hna hnb)
          (by rw [hps]; exact fun p hp => (List.mem_append.1 hp).elim (pl_c rfl p) (pl_c rfl p))
          (by rw [hps, List.map_append, pl_looks, pl_looks]; exact spans_two na m)
        rw [hfl] at hlo
        exact ⟨0, _, _, hlo, rfl, rfl, h.name, h.side⟩

set_option maxRecDepth 100000 in
theorem parted_pure (a b : List UInt8) (hl : a.length + b.length ≤ 4611686018427387904) : Pure Tryd.prog 16 [.str a, .str b] (.bool (!melts a b)) := by
  refine PureR.of_vcG follows' _ _ (by kernel_rfl) rfl (by rintro v rfl; rfl) (Eq.mpr (parted_vc (real Tryd.prog) (Iter Tryd.prog) a b _ _) ?_)
  simp only [real_n, real_al, real_get, real_set]
  cases hb : (b == ([] : List UInt8)) with
  | true =>
    simp only [cond_true]
    have : b = [] := by simpa using hb
    rw [this, melts_nil_right]; rfl
  | false =>
    simp only [cond_false]
    have hb' : b ≠ [] := by simpa using hb
    refine ⟨by omega, fun x H' j => ∃ m, H'.get x = some (.iter (a ++ b) (place (a ++ b) m)) ∧ (∀ i, i < m → place (a ++ b) i < (a ++ b).length ∧ place (a ++ b) i ≠ a.length) ∧ place (a ++ b) m ≤ (a ++ b).length ∧ j = (a ++ b).length - place (a ++ b) m,
      ⟨_, (a ++ b).length, rfl, 0, by rw [AH.get_alloc, if_pos rfl]; rfl, fun i h => absurd h (Nat.not_lt_zero i), Nat.zero_le _, rfl⟩, ?_⟩
    rintro x H' _ ⟨m, h1, h2, h3, rfl⟩
    refine ⟨_, _, h1, fun hk => ?_, fun hk => ?_⟩
    · cases he : (((place (a ++ b) m : Nat) : Int) == ((a.length : Nat) : Int)) with
      | true =>
        simp only [cond_true]
        have he' : place (a ++ b) m = a.length := by simp only [beq_iff_eq] at he; omega
        have : melts a b = false := by
          rw [← Bool.not_eq_true]; intro hm; exact melts_not_at hm m he'
        rw [this]; rfl
      | false =>
        simp only [cond_false]
        have he' : place (a ++ b) m ≠ a.length := by simp only [beq_eq_false_iff_ne] at he; omega
        obtain ⟨g1, g2⟩ := place_next hk
        refine ⟨x, (a ++ b).length - place (a ++ b) (m + 1), by omega, rfl, m + 1, by rw [AH.get_set, if_pos rfl]; rfl, fun i hi => ?_, g2, rfl⟩
        rcases Nat.lt_or_ge i m with g | g
        · exact h2 i g
        · obtain rfl : i = m := by omega
          exact ⟨hk, he'⟩
    · have hm : melts a b = true := by
        rw [← Bool.not_eq_false]
        intro hm
        obtain ⟨na, hna⟩ := SignsN.ex a
        have e : place (a ++ b) na = a.length := by rw [place_front hm hna.2, hna.1]
        have hlen : (a ++ b).length = a.length + b.length := List.length_append
        have hpos : 0 < b.length := List.length_pos_iff.2 hb'
        rcases Nat.lt_or_ge na m with g | g
        · exact (h2 na g).2 e
        · rcases Nat.lt_or_ge m na with g' | g'
          · have := place_lt (s := a ++ b) g'; omega
          · obtain rfl : m = na := by omega
            omega
      rw [hm]; rfl
end Go.Proofs.YtlkdhhkncoekgaaDoor
end

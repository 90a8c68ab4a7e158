/- What holds of a scanner of mark at each turn: its signs, its looks, and that it has read as many bytes as it wants spans. -/
import Derived.Test.YtlkdhhkncoekgaaDoorParseS
import Derived.Test.YtlkdhhkncoekgaaDoorNormr

/- Signs that are laid down: what melts. -/
section
namespace Go.Am

theorem melts_lead {a b : List UInt8} (h : ∀ c, b[0]? = some c → c.toNat / 64 ≠ 2) : melts a b = false := by
  rw [← Bool.not_eq_true, melts_iff]
  rintro ⟨p, h1, h2⟩
  rcases decodeL_cases (a ++ b) p with ⟨_, g⟩ | ⟨_, _, _, g0, g⟩
  · rw [g] at h2; simp only at h2; omega
  · have g1 := g (a.length - p) (by omega) (by omega)
    have e : rune1 (a ++ b) p (a.length - p) = (b[0]?.getD 0).toNat := by
      unfold rune1
      rw [show p + (a.length - p) = a.length + 0 by omega, get_right]
    rw [e] at g1
    cases hb : b[0]? with
    | none => rw [hb] at g1; simp at g1
    | some c => rw [hb] at g1; have := h c hb; simp only [Option.getD_some] at g1; omega

theorem melts_shift {a t r : List UInt8} (h : melts a (t ++ r) = false) (ht : (decodeL (t ++ r) 0).2 = t.length) : melts (a ++ t) r = false := by
  rw [← Bool.not_eq_true, melts_iff]
  rintro ⟨p, h1, h2⟩
  rw [List.length_append] at h1 h2
  rw [List.append_assoc] at h2
  rcases Nat.lt_or_ge p a.length with g | g
  · have := melts_no h g; omega
  · obtain ⟨q, rfl⟩ : ∃ q, p = a.length + q := ⟨p - a.length, by omega⟩
    rw [decodeL_back] at h2
    rcases Nat.eq_zero_or_pos q with rfl | hq
    · rw [ht] at h2; omega
    · have hl : 1 < (decodeL (t ++ r) q).2 := by omega
      have g2 := decodeL_lead hl
      rcases decodeL_cases (t ++ r) 0 with ⟨_, g⟩ | ⟨_, _, _, _, g⟩
      · rw [g] at ht; simp only at ht; omega
      · have := (g q hq (by omega)).2
        have e : rune1 (t ++ r) 0 q = rune1 (t ++ r) q 0 := by unfold rune1; rw [Nat.zero_add, Nat.add_zero]
        rw [e] at this; omega
theorem SignsN.snoc {a t : List UInt8} {n : Nat} (ha : SignsN a n) (h : melts a t = false) (ht : SignsN t 1) : SignsN (a ++ t) (n + 1) := SignsN.append h ha ht
end Go.Am
end

/- Looks: how many kinds; what is wanted. -/
section
namespace Go.Am

def sameL (a b : Look) : Bool := a.b == b.b && a.i == b.i && a.u == b.u && a.k == b.k && a.c == b.c
theorem sameL_iff {a b : Look} : sameL a b = true ↔ a = b := by
  unfold sameL
  simp only [Bool.and_eq_true, beq_iff_eq]
  constructor
  · rintro ⟨⟨⟨⟨h1, h2⟩, h3⟩, h4⟩, h5⟩
    obtain ⟨a1, a2, a3, a4, a5⟩ := a
    obtain ⟨b1, b2, b3, b4, b5⟩ := b
    simp only at h1 h2 h3 h4 h5
    rw [h1, h2, h3, h4, h5]
  · rintro rfl; exact ⟨⟨⟨⟨rfl, rfl⟩, rfl⟩, rfl⟩, rfl⟩
def onL (a : Look) : Nat := (bif a.b then 1 else 0) + (bif a.i then 1 else 0) + (bif a.u then 1 else 0) + (bif a.k then 1 else 0) + (if a.c = 0 then 0 else 1)
theorem onL_eq (a : Look) : onTo a 5 = onL a := by
  have o : ∀ b : Bool, (if one01 b = 0 then 0 else 1) = (bif b then 1 else 0 : Nat) := fun b => by cases b <;> rfl
  show 0 + onAt a 1 + onAt a 2 + onAt a 3 + onAt a 4 + onAt a 5 = _
  have h1 : onAt a 1 = (bif a.b then 1 else 0) := o a.b
  have h2 : onAt a 2 = (bif a.i then 1 else 0) := o a.i
  have h3 : onAt a 3 = (bif a.u then 1 else 0) := o a.u
  have h4 : onAt a 4 = (bif a.k then 1 else 0) := o a.k
  have h5 : onAt a 5 = (if a.c = 0 then 0 else 1) := rfl
  rw [h1, h2, h3, h4, h5]
  unfold onL; omega
theorem onL_le (a : Look) : onL a ≤ 5 := by
  obtain ⟨b, i, u, k, c⟩ := a
  unfold onL
  simp only
  cases b <;> cases i <;> cases u <;> cases k <;> simp only [cond_true, cond_false] <;> split <;> omega
def spareN (o : Nat) : Nat := if o = 3 ∨ o = 4 then 1 else 0
def needN (o : Nat) : Nat := if o ≤ 1 then 0 else if o = 2 then 1 else if o = 3 then 3 else 4
def cost (a b : Look) : Nat := bif sameL a b then spareN (onL a) else needN (onL b)
theorem cost_same (a : Look) : cost a a = spareN (onL a) := by unfold cost; rw [sameL_iff.2 rfl]; rfl
theorem cost_le (a b : Look) : cost a b ≤ 4 := by
  unfold cost spareN needN
  cases sameL a b <;> simp only [cond_true, cond_false] <;> repeat' split
  all_goals omega
theorem cost_none (a : Look) : cost a noLook = 0 := by
  unfold cost
  cases h : sameL a noLook with
  | true => rw [sameL_iff.1 h]; rfl
  | false => rfl

theorem spans_sign {L : List Look} {a b : Look} {i m : Nat} (h : (spans L).length + cost (lastLook L) a ≤ i) (hm : 1 ≤ m) (hb : b = a ∨ b = noLook) :
    (spans (L ++ [a])).length + cost (lastLook (L ++ [a])) b ≤ i + m := by
  have hl : lastLook (L ++ [a]) = a := by unfold lastLook; rw [List.getLast?_concat]; rfl
  obtain ⟨h1, h2⟩ := spans_more L a
  rw [hl]
  rw [onL_eq] at h1
  have ho := onL_le a
  have hc : cost a b ≤ spareN (onL a) := by
    rcases hb with rfl | rfl
    · rw [cost_same]; exact Nat.le_refl _
    · rw [cost_none]; exact Nat.zero_le _
  cases he : sameL (lastLook L) a with
  | true =>
    have e := sameL_iff.1 he
    have := h2 e
    rw [e, cost_same] at h
    omega
  | false =>
    have : cost (lastLook L) a = needN (onL a) := by unfold cost; rw [he]; rfl
    rw [this] at h
    have : onL a + spareN (onL a) ≤ needN (onL a) + 1 := by
      obtain ⟨o, hoo⟩ : ∃ o, o = onL a := ⟨_, rfl⟩
      rw [← hoo] at ho ⊢
      unfold spareN needN
      match o, ho with
      | 0, _ => decide
      | 1, _ => decide
      | 2, _ => decide
      | 3, _ => decide
      | 4, _ => decide
      | 5, _ => decide
    omega
theorem cost_form {a b c : Look} {n : Nat} (h : c = b ∨ 4 ≤ n ∨ (3 ≤ n ∧ onL c = onL b + 1)) : cost a c ≤ cost a b + n := by
  rcases h with rfl | h | ⟨h, ho⟩
  · omega
  · have := cost_le a c; omega
  · have hb := onL_le b
    have hc := onL_le c
    obtain ⟨o, hoo⟩ : ∃ o, o = onL b := ⟨_, rfl⟩
    cases h1 : sameL a c with
    | true =>
      have e := sameL_iff.1 h1
      subst e
      rw [cost_same]
      unfold spareN
      split <;> omega
    | false =>
      have e1 : cost a c = needN (onL c) := by unfold cost; rw [h1]; rfl
      rw [e1, ho]
      rw [ho] at hc
      cases h2 : sameL a b with
      | true =>
        have e := sameL_iff.1 h2
        subst e
        rw [cost_same]
        rw [← hoo] at hc ⊢
        unfold spareN needN
        match o, (show o ≤ 4 by omega) with
        | 0, _ => simp
        | 1, _ => simp; omega
        | 2, _ => simp; omega
        | 3, _ => simp; omega
        | 4, _ => simp; omega
      | false =>
        have e2 : cost a b = needN (onL b) := by unfold cost; rw [h2]; rfl
        rw [e2, ← hoo]
        rw [← hoo] at hc
        unfold needN
        match o, (show o ≤ 4 by omega) with
        | 0, _ => simp
        | 1, _ => simp; omega
        | 2, _ => simp; omega
        | 3, _ => simp; omega
        | 4, _ => simp
end Go.Am
end

/- What holds of a scanner at each turn. -/
section
namespace Go.Proofs.YtlkdhhkncoekgaaDoor
open Go.Am Go

def St.looks (x : St) : List Look := x.ps.map Prod.snd
def okC (c : Int) : Prop := 0 ≤ c ∧ c ≤ 16777216

structure Fine (d : Int) (s : List UInt8) (x : St) : Prop where
  isD : x.d = d
  isS : x.s = s
  le : x.i ≤ s.length
  so : x.so = (x.ps.map Prod.fst).flatten
  ne : ∀ p ∈ x.ps, p.1 ≠ []
  signs : SignsN x.so x.ps.length
  apart : melts x.so (s.drop x.i) = false
  few : x.so.length ≤ x.i
  room : x.so.length ≤ 4100
  c : ∀ p ∈ x.ps, okC p.2.c
  lc : okC x.look.c
  cols : ∀ c ∈ x.cols, okC c
  ncols : x.cols.length ≤ x.i
  op : ∀ k, 0 ≤ x.op k ∧ x.op k ≤ x.i
  name : x.name.length ≤ 64 ∧ (d ≠ 2 → x.name = [])
  side : x.side = 0 ∨ (x.side = 1 ∧ d = 4)
  cost : (spans x.looks).length + cost (lastLook x.looks) x.now ≤ x.i

theorem Fine.now_c {d : Int} {s : List UInt8} {x : St} (h : Fine d s x) : okC x.now.c := by
  unfold St.now
  cases x.d == 1 || x.d == 2 with
  | true =>
    simp only [cond_true]
    cases hl : x.cols.getLast? with
    | none => exact ⟨by decide, by decide⟩
    | some c => exact h.cols c (List.mem_of_getLast? hl)
  | false => exact h.lc
theorem Fine.pieces {d : Int} {s : List UInt8} {x : St} (h : Fine d s x) : x.ps.length ≤ x.so.length := by
  have h1 := place_ge h.signs.2
  have h2 := h.signs.1
  omega

theorem Fine.lay {d : Int} {s : List UInt8} {x y : St} (h : Fine d s x) (hr : x.so.length ≤ 4096) {t : List UInt8} {m : Nat} (h0 : t ≠ []) (h4 : t.length ≤ 4) (ht : SignsN t 1) (hm : t.length ≤ m) (hi : x.i + m ≤ s.length)
    (hm1 : melts x.so t = false) (hm2 : melts (x.so ++ t) (s.drop (x.i + m)) = false)
    (e1 : y.d = x.d) (e2 : y.s = x.s) (e3 : y.i = x.i + m) (e4 : y.so = x.so ++ t) (e5 : y.ps = x.ps ++ [(t, x.now)]) (e6 : y.op = x.op) (e7 : y.cols = x.cols) (e8 : y.look = x.look ∨ (y.look = noLook ∧ x.d = 3)) (e9 : y.name = x.name) (e10 : y.side = x.side) : Fine d s y := by
  have ht1 : 1 ≤ t.length := by
    cases t with
    | nil => exact absurd rfl h0
    | cons => simp
  have hnow : y.now = x.now ∨ y.now = noLook := by
    rcases e8 with e | ⟨e, ed⟩
    · left; unfold St.now; rw [e1, e6, e7, e]
    · right; unfold St.now; rw [e1, ed, e]; rfl
  refine ⟨by rw [e1]; exact h.isD, by rw [e2]; exact h.isS, by rw [e3]; exact hi, ?_, fun p hp => ?_, ?_, by rw [e4, e3]; exact hm2, ?_, ?_, fun p hp => ?_, ?_, by rw [e7]; exact h.cols, ?_, fun k => ?_, by rw [e9]; exact h.name, by rw [e10]; exact h.side, ?_⟩
  · rw [e4, e5, h.so]; simp
  · rw [e5] at hp
    rcases List.mem_append.1 hp with hp | hp
    · exact h.ne p hp
    · rw [List.mem_singleton.1 hp]; exact h0
  · rw [e4, e5, List.length_append]; exact h.signs.snoc hm1 ht
  · have := h.few; rw [e4, e3, List.length_append]; omega
  · rw [e4, List.length_append]; omega
  · rw [e5] at hp
    rcases List.mem_append.1 hp with hp | hp
    · exact h.c p hp
    · rw [List.mem_singleton.1 hp]; exact h.now_c
  · rcases e8 with e | ⟨e, _⟩
    · rw [e]; exact h.lc
    · rw [e]; exact ⟨by decide, by decide⟩
  · have := h.ncols; rw [e7, e3]; omega
  · have := h.op k; rw [e6, e3]; omega
  · have e : y.looks = x.looks ++ [x.now] := by unfold St.looks; rw [e5]; simp
    rw [e, e3]
    exact spans_sign h.cost (by omega) hnow

theorem Fine.form {d : Int} {s : List UInt8} {x y : St} (h : Fine d s x) {n : Nat} (hi : x.i + n ≤ s.length) (hm : melts x.so (s.drop (x.i + n)) = false)
    (e1 : y.d = x.d) (e2 : y.s = x.s) (e3 : y.i = x.i + n) (e4 : y.so = x.so) (e5 : y.ps = x.ps) (e6 : ∀ k, 0 ≤ y.op k ∧ y.op k ≤ x.i + n) (e7 : (∀ c ∈ y.cols, okC c) ∧ y.cols.length ≤ x.i + n) (e8 : okC y.look.c) (e9 : y.name.length ≤ 64 ∧ (d ≠ 2 → y.name = []))
    (e10 : y.side = 0 ∨ (y.side = 1 ∧ d = 4)) (e11 : y.now = x.now ∨ 4 ≤ n ∨ (3 ≤ n ∧ onL y.now = onL x.now + 1)) : Fine d s y := by
  refine ⟨by rw [e1]; exact h.isD, by rw [e2]; exact h.isS, by rw [e3]; exact hi, by rw [e4, e5]; exact h.so, by rw [e5]; exact h.ne, by rw [e4, e5]; exact h.signs, by rw [e4, e3]; exact hm, ?_, by rw [e4]; exact h.room, by rw [e5]; exact h.c, e8, e7.1, by rw [e3]; exact e7.2, fun k => by rw [e3]; exact e6 k, e9, e10, ?_⟩
  · have := h.few; rw [e4, e3]; omega
  · have e : y.looks = x.looks := by unfold St.looks; rw [e5]
    rw [e, e3]
    have := h.cost
    have := cost_form (a := lastLook x.looks) e11
    omega

theorem Fine.start (d : Int) (s : List UInt8) : Fine d s (St.start d s) := by
  refine ⟨rfl, rfl, Nat.zero_le _, rfl, (fun p h => by cases h), ⟨rfl, fun j h => absurd h (Nat.not_lt_zero j)⟩, melts_nil_left _, Nat.le_refl _, Nat.zero_le _, (fun p h => by cases h), ⟨Int.le_refl _, (by decide : (0 : Int) ≤ 16777216)⟩, (fun c h => by cases h), Nat.le_refl _, fun k => ⟨Int.le_refl _, Int.le_refl _⟩, ⟨Nat.zero_le _, fun _ => rfl⟩, .inl rfl, ?_⟩
  have : (St.start d s).now = noLook := by
    unfold St.now St.start
    cases d == 1 || d == 2 <;> rfl
  rw [this, cost_none]
  exact Nat.le_refl 0

theorem Fine.signed {d : Int} {s : List UInt8} {x : St} (h : Fine d s x) (hr : x.so.length ≤ 4096) (hl : x.i < s.length) : Fine d s x.signed := by
  have hs := h.isS
  have hsz := decodeL_size s x.i hl
  have hle := decodeL_le4 s x.i
  have hg : x.sgn = (s.drop x.i).take (decodeL s x.i).2 := by unfold St.sgn; rw [hs]
  have hlen : x.sgn.length = (decodeL s x.i).2 := by rw [hg, List.length_take, List.length_drop]; omega
  have hcut : s.drop x.i = x.sgn ++ s.drop (x.i + x.sgn.length) := by
    rw [hlen, ← List.drop_drop, hg, List.take_append_drop]
  have hd : (decodeL (x.sgn ++ s.drop (x.i + x.sgn.length)) 0).2 = x.sgn.length := by
    rw [← hcut, hlen]
    congr 1
    exact decodeL_congr fun j _ => by rw [List.getElem?_drop, Nat.zero_add]
  have ha := h.apart
  rw [hcut] at ha
  have hone : SignsN x.sgn 1 := by rw [hg]; exact SignsN.one hl
  have hm2 := melts_shift ha hd
  have hm1 : melts x.so x.sgn = false := by
    rw [← Bool.not_eq_true, melts_iff]
    rintro ⟨p, h1, h2⟩
    have h3 : decodeL (x.so ++ (x.sgn ++ s.drop (x.i + x.sgn.length))) p = decodeL (x.so ++ x.sgn) p := by
      have h4 := decodeL_size (x.so ++ x.sgn) p (by rw [List.length_append]; omega)
      rw [← List.append_assoc]
      refine decodeL_part (by omega) fun j hj => ?_
      exact (get_left (by omega)).symm
    have := melts_no ha h1
    rw [h3] at this
    omega
  refine h.lay hr (fun e => by rw [e] at hlen; simp at hlen; omega) (by omega) hone (Nat.le_refl _) (by omega) hm1 hm2 rfl rfl rfl rfl rfl rfl rfl (.inl rfl) rfl rfl

theorem Fine.put {d : Int} {s : List UInt8} {x y : St} (h : Fine d s x) (hr : x.so.length ≤ 4096) {t : List UInt8} {m : Nat} (hone : SignsN t 1) (hlead : ∀ c, t[0]? = some c → c.toNat / 64 ≠ 2) (h0 : t ≠ []) (h4 : t.length ≤ 4) (hm : t.length ≤ m) (hi : x.i + m ≤ s.length) (hsmall : decodeL t 0 ≠ (65533, 1))
    (e1 : y.d = x.d) (e2 : y.s = x.s) (e3 : y.i = x.i + m) (e4 : y.so = x.so ++ t) (e5 : y.ps = x.ps ++ [(t, x.now)]) (e6 : y.op = x.op) (e7 : y.cols = x.cols) (e8 : y.look = x.look ∨ (y.look = noLook ∧ x.d = 3)) (e9 : y.name = x.name) (e10 : y.side = x.side) : Fine d s y := by
  have hlen : (decodeL t 0).2 = t.length := by
    have := hone.1
    have e : place t 1 = 0 + (decodeL t 0).2 := rfl
    omega
  have hm1 : melts x.so t = false := melts_lead hlead
  refine h.lay hr h0 h4 hone hm hi hm1 (melts_shift (melts_lead fun c hc => ?_) ?_) e1 e2 e3 e4 e5 e6 e7 e8 e9 e10
  · rw [get_left (by cases t with
      | nil => exact absurd rfl h0
      | cons => simp)] at hc
    exact hlead c hc
  · rcases Nat.lt_or_ge 1 t.length with g | g
    · rw [← hlen]
      have := decodeL_part (s := t) (i := 0) (t := t ++ s.drop (x.i + m)) (k := 0) (by omega) fun j hj => by rw [Nat.zero_add, get_left (by omega)]
      rw [this]
    · have h1 : t.length = 1 := by
        cases t with
        | nil => exact absurd rfl h0
        | cons => simp only [List.length_cons] at g ⊢; omega
      have h2 : (decodeL t 0).2 = 1 := by omega
      have h3 := decodeL_one h2
      have r : rune1 (t ++ s.drop (x.i + m)) 0 0 = rune1 t 0 0 := by unfold rune1; rw [get_left (by omega)]
      have h5 : rune1 t 0 0 < 128 := by
        rcases Nat.lt_or_ge (rune1 t 0 0) 128 with g5 | g5
        · exact g5
        · rw [if_neg (by omega)] at h3
          exact absurd (Prod.ext h3 h2) hsmall
      rw [h1]
      unfold decodeL
      simp only [r]
      rw [if_pos h5]
end Go.Proofs.YtlkdhhkncoekgaaDoor
end

/- What entities stand for. -/
section
namespace Go.Proofs.YtlkdhhkncoekgaaDoor
open Go.Am Go

def entTab : List (List UInt8 × List UInt8) := [([38, 108, 116, 59], [60]), ([38, 103, 116, 59], [62]), ([38, 97, 109, 112, 59], [38]), ([38, 110, 98, 115, 112, 59], [194, 160]), ([38, 108, 114, 109, 59], [226, 128, 142]), ([38, 114, 108, 109, 59], [226, 128, 143])]
def entOf (s : List UInt8) : Option (List UInt8 × List UInt8) := entTab.find? fun e => pre s e.1
def entS (s : List UInt8) : List UInt8 := match entOf s with
  | some e => e.2
  | none => []
def entN (s : List UInt8) : Nat := match entOf s with
  | some e => e.1.length
  | none => 0

theorem signsN_one {t : List UInt8} (h : (decodeL t 0).2 = t.length) (h0 : 0 < t.length) : SignsN t 1 := by
  refine ⟨by show 0 + (decodeL t 0).2 = _; omega, fun j hj => ?_⟩
  obtain rfl : j = 0 := by omega
  exact h0
structure EntOk (e : List UInt8 × List UInt8) : Prop where
  one : SignsN e.2 1
  lead : ∀ c, e.2[0]? = some c → c.toNat / 64 ≠ 2
  ne : e.2 ≠ []
  four : e.2.length ≤ 4
  less : e.2.length ≤ e.1.length
  six : e.1.length ≤ 6
  small : decodeL e.2 0 ≠ (65533, 1)
theorem entTab_ok : ∀ e ∈ entTab, EntOk e := by
  intro e he
  simp only [entTab, List.mem_cons, List.not_mem_nil, or_false] at he
  rcases he with rfl | rfl | rfl | rfl | rfl | rfl <;>
    exact ⟨signsN_one (by decide) (by decide), fun c hc => by cases hc; decide, by decide, by decide, by decide, by decide, by decide⟩
theorem entOf_some {s : List UInt8} {e : List UInt8 × List UInt8} (h : entOf s = some e) : EntOk e ∧ pre s e.1 = true := by
  unfold entOf at h
  exact ⟨entTab_ok e (List.mem_of_find?_eq_some h), by have := List.find?_some h; simpa using this⟩
theorem pre_len {s t : List UInt8} (h : pre s t = true) : t.length ≤ s.length := by
  unfold pre at h
  simp only [Bool.and_eq_true, decide_eq_true_eq] at h
  omega

theorem turn_fine {d : Int} {s : List UInt8} {x : St} (h : Fine d s x) (hl : x.i < s.length) (hr : x.so.length ≤ 4096)
    (ha : (d = 1 ∨ d = 2) → (s[x.i]?.getD 0) = 60 → Past (Fine d s) 23 x)
    (he : d = 2 → (s[x.i]?.getD 0) = 38 → Pure Tryd.prog 24 [.str (s.drop x.i)] (.tuple [.str (entS (s.drop x.i)), .int .i64 (entN (s.drop x.i))]))
    (hp : d = 3 → (s[x.i]?.getD 0) = 123 → Past (Fine d s) 26 x)
    (hb : d = 4 → (s[x.i]?.getD 0) = 123 → Past (Fine d s) 28 x) : Turn (Fine d s) d s x := by
  have hsg := h.signed hr hl
  have byte : ∀ {c : UInt8}, (((s[x.i]?.getD 0).toNat : Nat) : Int) = ((c.toNat : Nat) : Int) → s[x.i]?.getD 0 = c := fun {c} e => UInt8.toNat_inj.1 (by omega)
  have nl : ∀ {y : St} {m : Nat}, 1 ≤ m → x.i + m ≤ s.length → y.d = x.d → y.s = x.s → y.i = x.i + m → y.so = x.so ++ [10] → y.ps = x.ps ++ [([10], x.now)] → y.op = x.op → y.cols = x.cols → (y.look = x.look ∨ (y.look = noLook ∧ x.d = 3)) → y.name = x.name → y.side = x.side → Fine d s y :=
    fun {y m} h1 h2 => h.put hr (t := [10]) (m := m) (signsN_one (by decide) (by decide)) (fun c hc => by cases hc; decide) (by decide) (by decide) h1 h2 (by decide)
  unfold Turn
  cases c1 : ((((s[x.i]?.getD 0).toNat : Nat) : Int) == 60 && (d == 1 || d == 2)) with
  | true =>
    simp only [Bool.and_eq_true, Bool.or_eq_true, beq_iff_eq] at c1
    exact ha c1.2 (byte (c := 60) c1.1)
  | false =>
  cases c2 : ((((s[x.i]?.getD 0).toNat : Nat) : Int) == 38 && d == 2) with
  | true =>
    simp only [Bool.and_eq_true, beq_iff_eq] at c2
    simp only [cond_true, cond_false]
    refine ⟨_, _, he c2.2 (byte (c := 38) c2.1), ?_⟩
    unfold entN entS
    cases hE : entOf (s.drop x.i) with
    | none => exact ⟨by decide, hsg⟩
    | some e =>
      obtain ⟨k, kp⟩ := entOf_some hE
      have kl := pre_len kp
      rw [List.length_drop] at kl
      have k0 : 0 < e.1.length := by
        have h1 := k.less
        have h2 : e.2.length ≠ 0 := fun e0 => k.ne (List.length_eq_zero_iff.1 e0)
        omega
      have k6 := k.six
      refine ⟨by simp only; omega, ?_⟩
      have : decide (0 < e.1.length) = true := by rw [decide_eq_true_iff]; exact k0
      simp only [this, cond_true]
      exact ⟨k.ne, k.four, h.put hr k.one k.lead k.ne k.four k.less (by omega) k.small rfl rfl rfl rfl rfl rfl rfl (.inl rfl) rfl rfl⟩
  | false =>
  cases c3 : ((((s[x.i]?.getD 0).toNat : Nat) : Int) == 124 && d == 3) with
  | true =>
    simp only [Bool.and_eq_true, beq_iff_eq] at c3
    simp only [cond_true, cond_false]
    exact nl (m := 1) (Nat.le_refl _) (by omega) rfl rfl rfl rfl rfl rfl rfl (.inr ⟨rfl, by rw [h.isD]; exact c3.2⟩) rfl rfl
  | false =>
  cases c4 : ((((s[x.i]?.getD 0).toNat : Nat) : Int) == 123 && d == 3 && x.fr) with
  | true =>
    simp only [Bool.and_eq_true, beq_iff_eq] at c4
    simp only [cond_true, cond_false]
    exact hp c4.1.2 (byte (c := 123) c4.1.1)
  | false =>
  cases c5 : ((((s[x.i]?.getD 0).toNat : Nat) : Int) == 92 && d == 4) with
  | true =>
    simp only [cond_true, cond_false]
    cases hN : pre (s.drop x.i) [92, 78] with
    | true =>
      simp only [cond_true]
      have kl := pre_len hN
      rw [List.length_drop] at kl
      simp only [List.length_cons, List.length_nil] at kl
      exact nl (m := 2) (by omega) (by omega) rfl rfl rfl rfl rfl rfl rfl (.inl rfl) rfl rfl
    | false => exact hsg
  | false =>
  cases c6 : ((((s[x.i]?.getD 0).toNat : Nat) : Int) == 123 && d == 4) with
  | true =>
    simp only [Bool.and_eq_true, beq_iff_eq] at c6
    simp only [cond_true, cond_false]
    exact hb c6.2 (byte (c := 123) c6.1)
  | false => exact hsg

theorem end_fine {d : Int} {s : List UInt8} {x : St} (h : Fine d s x) (hso : ∀ L : List Look, L.length ≤ 100000 → Sorts (spans L) (layAll (spans L))) :
    ∃ e S sp, LaidOut x e S sp ∧ ((e = 3 ∧ S = [] ∧ sp = [] ∧ 4096 < s.length) ∨ (e = 2 ∧ S = [] ∧ sp = [] ∧ 256 < s.length) ∨
      (e = 0 ∧ S = x.so ∧ sp = layAll (spans x.looks) ∧ sp.length ≤ 256 ∧ x.so.length ≤ 4096)) := by
  have hle := h.le
  have hfew := h.few
  have hroom := h.room
  have hpc := h.pieces
  have hLS := hso x.looks (by unfold St.looks; rw [List.length_map]; omega)
  have hpl : (layAll (spans x.looks)).length = (spans x.looks).length := (layAll_spec _).2.length_eq
  have hcost := h.cost
  have hlaid : ∀ (H : AH) (q : Option Nat), Lies H q x.ps.length (flat pcell x.ps) 79 → (∀ b, q = some b → b < H.n) → ACallee Tryd.prog 30 [sl q x.ps.length] H (LaidRes H x.so (layAll (spans x.looks))) := by
    intro H q hq hqb
    have := laid_S x.ps h.ne (by rw [← h.so]; omega) (by rw [← h.so]; exact h.signs) h.c hLS hq hqb
    rw [← h.so] at this
    exact this
  by_cases h96 : x.so.length ≤ 4096
  · have hd : decide (x.so.length ≤ 4096) = true := by rw [decide_eq_true_iff]; exact h96
    by_cases h256 : 256 < (layAll (spans x.looks)).length
    · obtain ⟨m1, m2, m3⟩ := many_spans h256 x.so
      refine ⟨2, [], [], fun H q hq hqb => (hlaid H q hq hqb).mono fun v H' hv => ?_, .inr (.inl ⟨rfl, rfl, rfl, by omega⟩)⟩
      unfold LaidRes at hv
      rw [hd, m1, m2, m3] at hv
      exact hv
    · obtain ⟨m1, m2, m3⟩ := few_spans (so := layAll (spans x.looks)) (by omega) x.so
      refine ⟨0, x.so, layAll (spans x.looks), fun H q hq hqb => (hlaid H q hq hqb).mono fun v H' hv => ?_, .inr (.inr ⟨rfl, rfl, rfl, by omega, h96⟩)⟩
      unfold LaidRes at hv
      rw [hd, m1, m2, m3] at hv
      exact hv
  · have hd : decide (x.so.length ≤ 4096) = false := by rw [decide_eq_false_iff_not]; exact h96
    refine ⟨3, [], [], fun H q hq hqb => (hlaid H q hq hqb).mono fun v H' hv => ?_, .inl ⟨rfl, rfl, rfl, by omega⟩⟩
    unfold LaidRes at hv
    rw [hd] at hv
    exact hv
end Go.Proofs.YtlkdhhkncoekgaaDoor
end

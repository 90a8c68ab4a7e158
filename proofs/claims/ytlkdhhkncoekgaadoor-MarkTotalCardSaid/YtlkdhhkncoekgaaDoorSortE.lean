/- slices.SortStableFunc puts rows of spans in order. -/
import Derived.Test.YtlkdhhkncoekgaaDoorSortD
namespace Go.Proofs.YtlkdhhkncoekgaaDoor
open Go.Am Go

theorem dvd_gap {w a c : Nat} (ha : w ∣ a) (hc : w ∣ c) (h : c < a) : c + w ≤ a := by
  have := Nat.le_of_dvd (by omega) (Nat.dvd_sub ha hc)
  omega
theorem done_step {w a : Nat} {g g' : Nat → Spn} (ha : w ∣ a) (hd : ∀ c, w ∣ c → c < a → Srt g c (c + w)) (ho : ∀ x, x < a → g' x = g x) (hs : Srt g' a (a + w)) : ∀ c, w ∣ c → c < a + w → Srt g' c (c + w) := by
  intro c hc h
  rcases Nat.lt_trichotomy c a with g1 | g1 | g1
  · have := dvd_gap ha hc g1
    exact (hd c hc g1).congr fun i _ hi => ho i (by omega)
  · subst g1; exact hs
  · have := dvd_gap hc ha g1; omega
theorem runs_of {w a n : Nat} {g : Nat → Spn} (ha : w ∣ a) (han : a ≤ n) (h : n < a + w) (hd : ∀ c, w ∣ c → c < a → Srt g c (c + w)) (hs : Srt g a n) : ∀ c, w ∣ c → Srt g c (min (c + w) n) := by
  intro c hc
  rcases Nat.lt_trichotomy c a with g1 | g1 | g1
  · exact (hd c hc g1).sub (Nat.le_refl c) (by omega)
  · subst g1; exact hs.sub (Nat.le_refl c) (by omega)
  · have := dvd_gap hc ha g1
    intro p q h1 h2 h3; omega

set_option maxRecDepth 100000 in
theorem stable_S {H : AH} {bk n : Nat} {f : Nat → Spn} (h : Holds H bk f n) (hn : n ≤ 1000000) :
    ACallee Tryd.prog 113 [D bk n, .int .i64 n, Fc] H (fun v H' => ∃ g, Left H bk n g v H' ∧ Srt g 0 n ∧ PermN n g f) := by
  refine .inl ⟨goB_spec (by kernel_rfl), vcG_ok (anns := _) (rans := _) follows' (Eq.mpr (stable_vc (real Tryd.prog) (Iter Tryd.prog) bk n H _) ?_)⟩
  simp only [real_wrap, real_call]
  obtain ⟨Z, hZ⟩ : ∃ Z : (Nat → Spn) → AH → Prop, Z = fun g H' => Holds H' bk g n ∧ H.n ≤ H'.n ∧ ∀ c, c < H.n → c ≠ bk → H'.get c = H.get c := ⟨_, rfl⟩
  have z0 : Z f H := by rw [hZ]; exact ⟨h, Nat.le_refl _, fun c _ _ => rfl⟩
  have nextZ : ∀ {g g2 : Nat → Spn} {H1 H2 : AH} {v : AV}, Z g H1 → Left H1 bk n g2 v H2 → Z g2 H2 := by
    intro g g2 H1 H2 v hz hl
    rw [hZ] at hz ⊢
    obtain ⟨_, k1, k2, k3⟩ := hl
    exact ⟨k1, by omega, fun c hc hcb => by rw [k3 c (by omega) hcb]; exact hz.2.2 c hc hcb⟩
  have hol : ∀ {g : Nat → Spn} {H1 : AH}, Z g H1 → Holds H1 bk g n := fun hz => by rw [hZ] at hz; exact hz.1
  refine ⟨fun x H' k => ∃ (a : Nat) (g : Nat → Spn), x = (20, (a : Int), ((a + 20 : Nat) : Int)) ∧ 20 ∣ a ∧ a ≤ n ∧ Z g H' ∧ (∀ c, 20 ∣ c → c < a → Srt g c (c + 20)) ∧ PermN n g f ∧ k = n - a,
    ⟨(20, 0, 20), n, rfl, 0, f, rfl, ⟨0, rfl⟩, Nat.zero_le _, z0, fun c _ h => by omega, PermN.refl n f, rfl⟩, ?_⟩
  rintro _ H1 _ ⟨a, g, rfl, hda, han, hz, hd, hp, rfl⟩
  by_cases hb : a + 20 ≤ n
  · have d1 : decide (((a + 20 : Nat) : Int) ≤ (n : Int)) = true := by rw [decide_eq_true_iff]; omega
    simp only [d1, cond_true]
    refine (insert_S (hol hz) hn hb han).mono ?_
    rintro v H2 ⟨g2, hl, hs2, hr2⟩
    refine ⟨(20, ((a + 20 : Nat) : Int), ((a + 20 + 20 : Nat) : Int)), n - (a + 20), by omega, ?_, a + 20, g2, rfl, Nat.dvd_add hda (Nat.dvd_refl 20), hb, nextZ hz hl, done_step hda hd (fun x hx => hr2.out x (.inl hx)) hs2, hr2.perm.trans hp, rfl⟩
    have w : IntKind.i64.wrap (((a + 20 : Nat) : Int) + 20) = ((a + 20 + 20 : Nat) : Int) := by rw [wrap_i64 (by omega) (by omega)]; omega
    simp only [w]
  have d1 : decide (((a + 20 : Nat) : Int) ≤ (n : Int)) = false := by rw [decide_eq_false_iff_not]; omega
  simp only [d1, cond_false]
  refine (insert_S (hol hz) hn (Nat.le_refl n) han).mono ?_
  rintro v H2 ⟨g2, hl, hs2, hr2⟩
  have hz2 := nextZ hz hl
  have hR : ∀ c, 20 ∣ c → Srt g2 c (min (c + 20) n) := by
    refine runs_of hda han (by omega) (fun c hc hca => ?_) hs2
    have := dvd_gap hda hc hca
    exact (hd c hc hca).congr fun i _ hi => hr2.out i (.inl (by omega))
  refine ⟨fun x H' k => ∃ (w : Nat) (g : Nat → Spn), x = (w : Int) ∧ 0 < w ∧ w ≤ 2000020 ∧ Z g H' ∧ (∀ c, w ∣ c → Srt g c (min (c + w) n)) ∧ PermN n g f ∧ k = n - w, ⟨20, n - 20, rfl, 20, g2, rfl, by decide, by decide, hz2, hR, hr2.perm.trans hp, rfl⟩, ?_⟩
  clear hR hz2 hl hr2 hs2 hd hz hda han d1 hb hp
  rintro _ H3 _ ⟨w, g, rfl, hw0, hw1, hz, hR, hp, rfl⟩
  by_cases hwn : w < n
  · have d2 : decide ((w : Int) < (n : Int)) = true := by rw [decide_eq_true_iff]; omega
    have w2 : IntKind.i64.wrap (2 * (w : Int)) = ((2 * w : Nat) : Int) := by rw [wrap_i64 (by omega) (by omega)]; omega
    simp only [d2, cond_true, w2]
    refine ⟨fun x H' k => ∃ (a : Nat) (g : Nat → Spn), x = ((w : Int), (a : Int), ((a + 2 * w : Nat) : Int)) ∧ (2 * w) ∣ a ∧ a ≤ n ∧ Z g H' ∧ (∀ c, (2 * w) ∣ c → c < a → Srt g c (c + 2 * w)) ∧ (∀ c, w ∣ c → a ≤ c → Srt g c (min (c + w) n)) ∧ PermN n g f ∧ k = n - a,
      ⟨((w : Int), 0, ((2 * w : Nat) : Int)), n, rfl, 0, g, by rw [Nat.zero_add]; rfl, ⟨0, rfl⟩, Nat.zero_le _, hz, fun c _ h => by omega, fun c hc _ => hR c hc, hp, rfl⟩, ?_⟩
    rintro _ H4 _ ⟨a, g4, rfl, hda, han, hz4, hd4, hR4, hp4, rfl⟩
    have hwa : w ∣ a := Nat.dvd_trans ⟨2, by omega⟩ hda
    have hwaw : w ∣ a + w := Nat.dvd_add hwa (Nat.dvd_refl w)
    have waw : IntKind.i64.wrap ((a : Int) + (w : Int)) = ((a + w : Nat) : Int) := by rw [wrap_i64 (by omega) (by omega)]; omega
    have wb : IntKind.i64.wrap (((a + 2 * w : Nat) : Int) + ((2 * w : Nat) : Int)) = ((a + 2 * w + 2 * w : Nat) : Int) := by rw [wrap_i64 (by omega) (by omega)]; omega
    by_cases hb : a + 2 * w ≤ n
    · have d3 : decide (((a + 2 * w : Nat) : Int) ≤ (n : Int)) = true := by rw [decide_eq_true_iff]; omega
      simp only [d3, cond_true, waw, w2, wb]
      have s1 : Srt g4 a (a + w) := (hR4 a hwa (Nat.le_refl a)).sub (Nat.le_refl a) (by omega)
      have s2 : Srt g4 (a + w) (a + 2 * w) := (hR4 (a + w) hwaw (by omega)).sub (Nat.le_refl _) (by omega)
      refine (symMerge_S _ (m := a + w) rfl (hol hz4) hn (by omega) (by omega) hb s1 s2).mono ?_
      rintro v H5 ⟨g5, hl, hs5, hr5⟩
      refine ⟨((w : Int), ((a + 2 * w : Nat) : Int), ((a + 2 * w + 2 * w : Nat) : Int)), n - (a + 2 * w), by omega, rfl, a + 2 * w, g5, rfl, Nat.dvd_add hda (Nat.dvd_refl _), hb, nextZ hz4 hl, done_step hda hd4 (fun x hx => hr5.out x (.inl hx)) hs5, fun c hc hca => ?_, hr5.perm.trans hp4, rfl⟩
      exact (hR4 c hc (by omega)).congr fun i hi _ => hr5.out i (.inr (by omega))
    · have d3 : decide (((a + 2 * w : Nat) : Int) ≤ (n : Int)) = false := by rw [decide_eq_false_iff_not]; omega
      simp only [d3, cond_false, waw]
      have s1 : Srt g4 a (min (a + w) n) := hR4 a hwa (Nat.le_refl a)
      refine ⟨fun x H' => x = (w : Int) ∧ ∃ g, Z g H' ∧ (∀ c, (2 * w) ∣ c → Srt g c (min (c + 2 * w) n)) ∧ PermN n g f, ?_, ?_⟩
      · by_cases hm : a + w < n
        · have d4 : decide (((a + w : Nat) : Int) < (n : Int)) = true := by rw [decide_eq_true_iff]; omega
          simp only [d4, cond_true]
          have s2 : Srt g4 (a + w) n := (hR4 (a + w) hwaw (by omega)).sub (Nat.le_refl _) (by omega)
          refine (symMerge_S _ (m := a + w) rfl (hol hz4) hn (by omega) hm (Nat.le_refl n) (s1.sub (Nat.le_refl a) (by omega)) s2).mono ?_
          rintro v H5 ⟨g5, hl, hs5, hr5⟩
          refine ⟨(w : Int), 0, trivial, rfl, rfl, g5, nextZ hz4 hl, runs_of hda han (by omega) (fun c hc hca => ?_) hs5, hr5.perm.trans hp4⟩
          have := dvd_gap hda hc hca
          exact (hd4 c hc hca).congr fun i _ hi => hr5.out i (.inl (by omega))
        · have d4 : decide (((a + w : Nat) : Int) < (n : Int)) = false := by rw [decide_eq_false_iff_not]; omega
          simp only [d4, cond_false]
          exact ⟨(w : Int), 0, trivial, rfl, rfl, g4, hz4, runs_of hda han (by omega) hd4 (s1.sub (Nat.le_refl a) (by omega)), hp4⟩
      · rintro _ H6 ⟨rfl, g6, hz6, hR6, hp6⟩
        have ww : IntKind.i64.wrap ((w : Int) * 2) = ((2 * w : Nat) : Int) := by rw [wrap_i64 (by omega) (by omega)]; omega
        exact ⟨((2 * w : Nat) : Int), n - 2 * w, by omega, by rw [ww], 2 * w, g6, rfl, by omega, by omega, hz6, hR6, hp6, rfl⟩
  · have d2 : decide ((w : Int) < (n : Int)) = false := by rw [decide_eq_false_iff_not]; omega
    simp only [d2, cond_false]
    rw [hZ] at hz
    exact ⟨g, ⟨rfl, hz.1, hz.2.1, hz.2.2⟩, (hR 0 ⟨0, rfl⟩).sub (Nat.le_refl 0) (by omega), hp⟩
set_option maxRecDepth 100000 in
theorem sort_S {H : AH} {bk n : Nat} {f : Nat → Spn} (h : Holds H bk f n) (hn : n ≤ 1000000) :
    ACallee Tryd.prog 99 [D bk n, Fc] H (fun v H' => ∃ g, Left H bk n g v H' ∧ Srt g 0 n ∧ PermN n g f) := by
  refine .inl ⟨goB_spec (by kernel_rfl), vcG_ok (anns := _) (rans := _) follows' (Eq.mpr (sortS_vc (real Tryd.prog) (Iter Tryd.prog) bk n H _) ?_)⟩
  simp only [real_call]
  refine (stable_S h hn).mono ?_
  rintro v H' ⟨g, ⟨rfl, h1⟩, h2⟩
  exact ⟨g, ⟨rfl, h1⟩, h2⟩

/-! The one row that is in order -/
def layL : List Spn → Spn → List Spn
  | [], x => [x]
  | y :: l, x => if ltS x y then x :: y :: l else y :: layL l x
def layAll (sp : List Spn) : List Spn := sp.foldl layL []

def Ordered (l : List Spn) : Prop := l.Pairwise fun x y => ltS y x = false
theorem layL_perm : ∀ (l : List Spn) (x : Spn), (layL l x).Perm (x :: l)
  | [], x => List.Perm.refl _
  | y :: l, x => by
    unfold layL
    split
    · exact List.Perm.refl _
    · exact ((layL_perm l x).cons y).trans (List.Perm.swap x y l)
theorem layL_ordered : ∀ {l : List Spn} {x : Spn}, Ordered l → Ordered (layL l x)
  | [], x, _ => List.pairwise_singleton ..
  | y :: l, x, h => by
    have h' := List.pairwise_cons.1 h
    unfold layL
    split
    · rename_i hl
      refine List.pairwise_cons.2 ⟨fun z hz => ?_, h⟩
      rcases List.mem_cons.1 hz with rfl | hz
      · exact ltS_le hl
      · exact ltS_trans (h'.1 z hz) (ltS_le hl)
    · rename_i hl
      refine List.pairwise_cons.2 ⟨fun z hz => ?_, layL_ordered h'.2⟩
      rcases List.mem_cons.1 ((layL_perm l x).mem_iff.1 hz) with rfl | hz
      · exact Bool.eq_false_iff.2 hl
      · exact h'.1 z hz
theorem layAll_go : ∀ (sp l : List Spn), Ordered l → Ordered (sp.foldl layL l) ∧ (sp.foldl layL l).Perm (sp ++ l)
  | [], l, h => ⟨h, List.Perm.refl _⟩
  | x :: sp, l, h => by
    obtain ⟨h1, h2⟩ := layAll_go sp (layL l x) (layL_ordered h)
    refine ⟨h1, h2.trans ?_⟩
    exact ((layL_perm l x).append_left sp).trans List.perm_middle
theorem layAll_spec (sp : List Spn) : Ordered (layAll sp) ∧ (layAll sp).Perm sp := by
  have := layAll_go sp [] List.Pairwise.nil
  rw [List.append_nil] at this; exact this

def Apart (sp : List Spn) : Prop := sp.Pairwise fun x y => ltS x y = true ∨ ltS y x = true

theorem uniq2 {N : Nat} {f g : Nat → Spn} (F : ∀ i j, i < j → j < N → ltS (f i) (f j) = true) (G : ∀ i j, i < j → j < N → ltS (g i) (g j) = true) (fg : ∀ i, i < N → ∃ j, j < N ∧ f i = g j) (gf : ∀ i, i < N → ∃ j, j < N ∧ g i = f j) : ∀ i, i < N → f i = g i := by
  intro i
  induction i using Nat.strongRecOn with
  | ind i ih =>
    intro hi
    obtain ⟨j, hj, ej⟩ := fg i hi
    obtain ⟨k, hk, ek⟩ := gf i hi
    rcases Nat.lt_trichotomy j i with h1 | h1 | h1
    · exfalso
      have e := ih j h1 hj
      have := F j i h1 hi
      rw [e, ej, ltS_irr] at this; cases this
    · subst h1; exact ej
    · rcases Nat.lt_trichotomy k i with h2 | h2 | h2
      · exfalso
        have e := ih k h2 hk
        have := G k i h2 hi
        rw [← e, ek, ltS_irr] at this; cases this
      · subst h2; exact ek.symm
      · exfalso
        have x1 := G i j h1 hj
        have x2 := F i k h2 hk
        rw [← ej, ek] at x1
        have := ltS_le x1
        rw [this] at x2; cases x2

theorem sorts_all {sp : List Spn} (hl : sp.length ≤ 1000000) (ha : Apart sp) : Sorts sp (layAll sp) := by
  obtain ⟨ho, hp⟩ := layAll_spec sp
  have hlen : (layAll sp).length = sp.length := hp.length_eq
  refine ⟨hlen, fun H q hq hb => ?_⟩
  cases q with
  | none =>
    have h0 : sp = [] := List.length_eq_zero_iff.1 hq.1
    subst h0
    refine sort_pure.use1 ⟨rfl, hq, Nat.le_refl _, fun c _ _ => rfl⟩
  | some bk =>
    obtain ⟨n, hn⟩ : ∃ n, n = sp.length := ⟨_, rfl⟩
    obtain ⟨f, hf⟩ : ∃ f : Nat → Spn, f = fun i => (sp[i]?).getD ⟨0, 0, 0, 0⟩ := ⟨_, rfl⟩
    have hmap : ∀ l : List Spn, l.length = n → (List.range n).map (fun i => (l[i]?).getD ⟨0, 0, 0, 0⟩) = l := by
      intro l hl
      apply List.ext_getElem
      · rw [List.length_map, List.length_range, hl]
      · intro i h1 h2
        rw [List.getElem_map, List.getElem_range, List.getElem?_eq_getElem h2]; rfl
    have hH : Holds H bk f n := by
      unfold Holds
      rw [hf, hmap sp hn.symm]; exact hq
    rw [← hn]
    refine (sort_S hH (by omega)).mono ?_
    rintro v H' ⟨g, ⟨rfl, h1, h2, h3⟩, hs, s, t, a1, a2, a3⟩
    refine ⟨rfl, ?_, h2, fun c hc hne => h3 c hc fun e => hne (by rw [e])⟩
    have apart : ∀ i j, i < n → j < n → i ≠ j → ltS (f i) (f j) = true ∨ ltS (f j) (f i) = true := by
      have := List.pairwise_iff_getElem.1 ha
      intro i j hi hj hne
      rw [hf]
      simp only [List.getElem?_eq_getElem (show i < sp.length by omega), List.getElem?_eq_getElem (show j < sp.length by omega), Option.getD_some]
      rcases Nat.lt_or_ge i j with h | h
      · exact this i j (by omega) (by omega) h
      · exact (this j i (by omega) (by omega) (by omega)).symm
    obtain ⟨k, hk⟩ : ∃ k : Nat → Spn, k = fun i => ((layAll sp)[i]?).getD ⟨0, 0, 0, 0⟩ := ⟨_, rfl⟩
    have hkm : (List.range n).map k = layAll sp := by rw [hk]; exact hmap _ (by omega)
    have memf : ∀ x, x ∈ sp ↔ ∃ i, i < n ∧ f i = x := by
      intro x
      conv => lhs; rw [← hmap sp hn.symm]
      rw [List.mem_map, hf]
      simp only [List.mem_range]
    have memk : ∀ x, x ∈ layAll sp ↔ ∃ i, i < n ∧ k i = x := by
      intro x
      conv => lhs; rw [← hkm]
      rw [List.mem_map]
      simp only [List.mem_range]
    have F : ∀ i j, i < j → j < n → ltS (g i) (g j) = true := by
      intro i j hij hj
      have hne : s i ≠ s j := fun e => by
        have h1 := (a1 i (by omega)).2
        have h2 := (a1 j hj).2
        rw [e, h2] at h1; omega
      rcases apart (s i) (s j) (a1 i (by omega)).1 (a1 j hj).1 hne with g1 | g1
      · rw [a3 i (by omega), a3 j hj]; exact g1
      · have := hs i j (Nat.zero_le _) hij hj
        rw [a3 i (by omega), a3 j hj, g1] at this; cases this
    have hap : Apart (layAll sp) := (hp.pairwise_iff (fun {x y} h => h.symm)).2 ha
    have K : ∀ i j, i < j → j < n → ltS (k i) (k j) = true := by
      intro i j hij hj
      have e1 := List.pairwise_iff_getElem.1 hap i j (by omega) (by omega) hij
      have e2 := List.pairwise_iff_getElem.1 ho i j (by omega) (by omega) hij
      rw [hk]
      simp only [List.getElem?_eq_getElem (show i < (layAll sp).length by omega), List.getElem?_eq_getElem (show j < (layAll sp).length by omega), Option.getD_some]
      rcases e1 with e1 | e1
      · exact e1
      · rw [e1] at e2; cases e2
    have gk := uniq2 F K (fun i hi => by
        have : g i ∈ layAll sp := hp.mem_iff.2 ((memf _).2 ⟨s i, (a1 i hi).1, (a3 i hi).symm⟩)
        obtain ⟨j, hj, e⟩ := (memk _).1 this
        exact ⟨j, hj, e.symm⟩) (fun i hi => by
        have : k i ∈ sp := hp.mem_iff.1 ((memk _).2 ⟨i, hi, rfl⟩)
        obtain ⟨j, hj, e⟩ := (memf _).1 this
        refine ⟨t j, (a2 j hj).1, ?_⟩
        rw [a3 _ (a2 j hj).1, (a2 j hj).2, e])
    have := h1.congr (g := k) fun i hi => (gk i hi).symm
    unfold Holds at this
    rw [hkm] at this
    show H'.get bk = _
    exact this
end Go.Proofs.YtlkdhhkncoekgaaDoor

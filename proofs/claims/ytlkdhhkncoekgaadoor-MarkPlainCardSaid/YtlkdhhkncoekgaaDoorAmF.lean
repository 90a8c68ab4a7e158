/- The abstract machine: what reads no more than a few cells: slices, lengths, assertions. -/
import Derived.Test.YtlkdhhkncoekgaaDoorAmE
namespace Go.Am
open Go.RowKit

section
variable {P : Program} {E : Env} {B : Bnd} {H : AH} {w : World}

theorem run_unV {op : UnOp} {a v : AV} {x : Value} (h : unV op a = some v) (hx : VR E a x) : Got P E w v (Op.unary op x) := by
  unfold unV at h
  split at h
  · cases h; obtain rfl : x = _ := hx; exact ⟨_, rfl, rfl⟩
  · rename_i k n
    obtain rfl : x = _ := hx
    simp only [intBin, Option.some.injEq] at h
    subst h
    refine ⟨_, ?_, rfl⟩
    simp [Op.unary, Op.intBits]
  · cases h; obtain rfl : x = _ := hx; exact ⟨_, rfl, rfl⟩
  · cases h

theorem run_lenV {t ty : TypeId} {a v : AV} {x : Value} (ts : Array TypeId) (xs : Array Value) (ht : ts[0]? = some t) (hxs : xs[0]? = some x) (h : lenV P t a = some v) (hx : VR E a x) : Got P E w v (Builtin.len_ ts ty xs) := by
  unfold lenV at h
  split at h
  · rename_i s hu; cases h; obtain rfl : x = _ := hx
    refine ⟨_, ?_, rfl⟩
    simp [Builtin.len_, ht, hxs, run_underlying hu, goInt]; rfl
  · rename_i n e hu; cases h
    refine ⟨_, ?_, rfl⟩
    simp [Builtin.len_, ht, hxs, run_underlying hu, goInt]
  · rename_i p hu
    split at h
    · rename_i n e hu2
      cases h
      refine ⟨_, ?_, rfl⟩
      simp [Builtin.len_, ht, hxs, run_underlying hu, run_underlying hu2, goInt]
    · cases h
  · rename_i e p n c hu; cases h
    refine ⟨_, ?_, rfl⟩
    cases p with
    | none => obtain ⟨rfl, _⟩ := hx; simp [Builtin.len_, ht, hxs, run_underlying hu, goInt]
    | some p => obtain ⟨pb, po⟩ := p; obtain ⟨L, a', c', _, rfl, _⟩ := hx; simp [Builtin.len_, ht, hxs, run_underlying hu, goInt]
  · cases h

theorem run_capV (hH : HR P E B H w) {t ty : TypeId} {a v : AV} {x : Value} (ts : Array TypeId) (xs : Array Value) (ht : ts[0]? = some t) (hxs : xs[0]? = some x) (h : capV P H t a = some v) (hx : VR E a x) : Got P E w v (Builtin.cap_ ts ty xs) := by
  unfold capV at h
  split at h
  · rename_i e l c hu; cases h; obtain ⟨rfl, _⟩ := hx
    refine ⟨_, ?_, rfl⟩
    simp [Builtin.cap_, ht, hxs, run_underlying hu, goInt]
  · rename_i e b o l c hu
    split at h
    · rename_i cs e' fl hb
      split at h
      · cases h
      · rename_i hop
        cases h
        obtain ⟨L, a', c', hL, rfl, hlc, hcc, _⟩ := hx
        obtain ⟨L', hL', ho⟩ := hH.obj _ _ hb
        rw [hL] at hL'; cases hL'
        obtain ⟨X, lo, hi, h1, h2, h3, h4, h5, h6, h7, h8⟩ := ho
        have h0 := h7 (by simpa using hop)
        have : c' = c := by rcases hcc with e | ⟨_, e⟩ <;> omega
        subst this
        refine ⟨_, ?_, rfl⟩
        simp [Builtin.cap_, ht, hxs, run_underlying hu, goInt]
    · cases h
  · cases h

theorem run_typeAssertV {t st : TypeId} {ok : Bool} {a v : AV} {x : Value} (h : typeAssertV P t ok a = some v) (hx : VR E a x) : Got P E w v (Instr.typeAssert x st t ok) := by
  unfold typeAssertV at h
  split at h
  · obtain rfl : x = _ := hx
    split at h
    · rename_i d z hu hz
      cases h
      obtain ⟨zx, hz1, hz2⟩ := run_zero hz E w
      refine ⟨.tuple #[zx, .bool false], ?_, _, rfl, zx, _, rfl, hz2, _, _, rfl, rfl, rfl⟩
      cases d <;> simp [Instr.typeAssert, run_underlying hu, hz1]
    · cases h
  · rename_i ty y
    obtain ⟨z, rfl, hz⟩ := hx
    split at h
    · cases h
    · rename_i d hni hu
      split at h
      · rename_i he
        subst he
        cases h
        cases ok with
        | true =>
          refine ⟨.tuple #[z, .bool true], ?_, _, rfl, z, _, rfl, hz, _, _, rfl, rfl, rfl⟩
          cases d <;> first | (exact absurd rfl (hni _)) | simp [Instr.typeAssert, run_underlying hu]
        | false =>
          refine ⟨z, ?_, hz⟩
          cases d <;> first | (exact absurd rfl (hni _)) | simp [Instr.typeAssert, run_underlying hu]
      · rename_i he
        split at h
        · rename_i hok
          subst hok
          obtain ⟨zz, hzz, rfl⟩ := Option.map_eq_some_iff.1 h
          obtain ⟨zx, hz1, hz2⟩ := run_zero hzz E w
          refine ⟨.tuple #[zx, .bool false], ?_, _, rfl, zx, _, rfl, hz2, _, _, rfl, rfl, rfl⟩
          cases d <;> first | (exact absurd rfl (hni _)) | simp [Instr.typeAssert, run_underlying hu, he, hz1]
        · cases h
    · cases h
  · cases h

theorem run_min2 : ∀ {l : List AV} {a v : AV} {x : Value} {ys : List Value}, minMaxV (fun y x => decide (y < x)) a l = some v → VR E a x → VRs E l ys → Got P E w v (ys.foldlM Builtin.min2 x)
  | [], .int k n, v, x, ys, h, hx, hl => by
    simp only [minMaxV, Option.some.injEq] at h
    subst h
    cases hl; obtain rfl : x = _ := hx
    exact ⟨_, by simp, rfl⟩
  | .int k' m :: l, .int k n, v, x, ys, h, hx, hl => by
    simp only [minMaxV] at h
    obtain ⟨y, ys', rfl, hy, hl⟩ := hl
    obtain rfl : x = _ := hx; obtain rfl : y = _ := hy
    obtain ⟨z, hz, hv⟩ := run_min2 h (show VR E _ (.int k (if m < n then m else n)) by simp [VR]) hl
    exact ⟨z, by simp [Builtin.min2, hz], hv⟩
  | .bool _ :: _, .int _ _, _, _, _, h, _, _ => by simp [minMaxV] at h
  | .str _ :: _, .int _ _, _, _, _, h, _, _ => by simp [minMaxV] at h
  | .ptr _ :: _, .int _ _, _, _, _, h, _, _ => by simp [minMaxV] at h
  | .slice _ _ _ :: _, .int _ _, _, _, _, h, _, _ => by simp [minMaxV] at h
  | .func _ _ _ :: _, .int _ _, _, _, _, h, _, _ => by simp [minMaxV] at h
  | .nilFunc :: _, .int _ _, _, _, _, h, _, _ => by simp [minMaxV] at h
  | .yld _ :: _, .int _ _, _, _, _, h, _, _ => by simp [minMaxV] at h
  | .iface _ _ :: _, .int _ _, _, _, _, h, _, _ => by simp [minMaxV] at h
  | .nilIface :: _, .int _ _, _, _, _, h, _, _ => by simp [minMaxV] at h
  | .agg _ :: _, .int _ _, _, _, _, h, _, _ => by simp [minMaxV] at h
  | .tuple _ :: _, .int _ _, _, _, _, h, _, _ => by simp [minMaxV] at h
  | .any :: _, .int _ _, _, _, _, h, _, _ => by simp [minMaxV] at h
  | _, .bool _, _, _, _, h, _, _ => by simp [minMaxV] at h
  | _, .str _, _, _, _, h, _, _ => by simp [minMaxV] at h
  | _, .ptr _, _, _, _, h, _, _ => by simp [minMaxV] at h
  | _, .slice _ _ _, _, _, _, h, _, _ => by simp [minMaxV] at h
  | _, .func _ _ _, _, _, _, h, _, _ => by simp [minMaxV] at h
  | _, .nilFunc, _, _, _, h, _, _ => by simp [minMaxV] at h
  | _, .yld _, _, _, _, h, _, _ => by simp [minMaxV] at h
  | _, .iface _ _, _, _, _, h, _, _ => by simp [minMaxV] at h
  | _, .nilIface, _, _, _, h, _, _ => by simp [minMaxV] at h
  | _, .agg _, _, _, _, h, _, _ => by simp [minMaxV] at h
  | _, .tuple _, _, _, _, h, _, _ => by simp [minMaxV] at h
  | _, .any, _, _, _, h, _, _ => by simp [minMaxV] at h

theorem run_max2 : ∀ {l : List AV} {a v : AV} {x : Value} {ys : List Value}, minMaxV (fun y x => decide (y > x)) a l = some v → VR E a x → VRs E l ys → Got P E w v (ys.foldlM Builtin.max2 x)
  | [], .int k n, v, x, ys, h, hx, hl => by
    simp only [minMaxV, Option.some.injEq] at h
    subst h
    cases hl; obtain rfl : x = _ := hx
    exact ⟨_, by simp, rfl⟩
  | .int k' m :: l, .int k n, v, x, ys, h, hx, hl => by
    simp only [minMaxV] at h
    obtain ⟨y, ys', rfl, hy, hl⟩ := hl
    obtain rfl : x = _ := hx; obtain rfl : y = _ := hy
    obtain ⟨z, hz, hv⟩ := run_max2 h (show VR E _ (.int k (if m > n then m else n)) by simp [VR]) hl
    exact ⟨z, by simp [Builtin.max2, hz], hv⟩
  | .bool _ :: _, .int _ _, _, _, _, h, _, _ => by simp [minMaxV] at h
  | .str _ :: _, .int _ _, _, _, _, h, _, _ => by simp [minMaxV] at h
  | .ptr _ :: _, .int _ _, _, _, _, h, _, _ => by simp [minMaxV] at h
  | .slice _ _ _ :: _, .int _ _, _, _, _, h, _, _ => by simp [minMaxV] at h
  | .func _ _ _ :: _, .int _ _, _, _, _, h, _, _ => by simp [minMaxV] at h
  | .nilFunc :: _, .int _ _, _, _, _, h, _, _ => by simp [minMaxV] at h
  | .yld _ :: _, .int _ _, _, _, _, h, _, _ => by simp [minMaxV] at h
  | .iface _ _ :: _, .int _ _, _, _, _, h, _, _ => by simp [minMaxV] at h
  | .nilIface :: _, .int _ _, _, _, _, h, _, _ => by simp [minMaxV] at h
  | .agg _ :: _, .int _ _, _, _, _, h, _, _ => by simp [minMaxV] at h
  | .tuple _ :: _, .int _ _, _, _, _, h, _, _ => by simp [minMaxV] at h
  | .any :: _, .int _ _, _, _, _, h, _, _ => by simp [minMaxV] at h
  | _, .bool _, _, _, _, h, _, _ => by simp [minMaxV] at h
  | _, .str _, _, _, _, h, _, _ => by simp [minMaxV] at h
  | _, .ptr _, _, _, _, h, _, _ => by simp [minMaxV] at h
  | _, .slice _ _ _, _, _, _, h, _, _ => by simp [minMaxV] at h
  | _, .func _ _ _, _, _, _, h, _, _ => by simp [minMaxV] at h
  | _, .nilFunc, _, _, _, h, _, _ => by simp [minMaxV] at h
  | _, .yld _, _, _, _, h, _, _ => by simp [minMaxV] at h
  | _, .iface _ _, _, _, _, h, _, _ => by simp [minMaxV] at h
  | _, .nilIface, _, _, _, h, _, _ => by simp [minMaxV] at h
  | _, .agg _, _, _, _, h, _, _ => by simp [minMaxV] at h
  | _, .tuple _, _, _, _, h, _, _ => by simp [minMaxV] at h
  | _, .any, _, _, _, h, _, _ => by simp [minMaxV] at h

theorem run_sliceBounds {b : Bool} {len capA capC l h m : Nat} {lo hi mx : Option AV} {lo' hi' mx' : Option Value} (hlo : VRo E lo lo') (hhi : VRo E hi hi') (hmx : VRo E mx mx')
    (el : idxV 0 lo = some l) (eh : idxV len hi = some h) (em : idxV capA mx = some m) (h1 : l ≤ h) (h2 : h ≤ m) (h3 : m ≤ capA) (h4 : capA ≤ capC) (h5 : mx.isSome → hi.isSome) :
    (Instr.sliceBounds b len capC lo' hi' mx').run P w = .ok (l, h, if mx.isSome then m else capC) w := by
  have key : ∀ {d n : Nat} {o : Option AV} {o' : Option Value}, VRo E o o' → idxV d o = some n → (o = none ∧ o' = none ∧ n = d) ∨ (∃ k i, o' = some (.int k i) ∧ o.isSome = true ∧ 0 ≤ i ∧ i.toNat = n) := by
    intro d n o o' ho hn
    cases o with
    | none => cases ho; simp only [idxV, Option.some.injEq] at hn; exact .inl ⟨rfl, rfl, hn.symm⟩
    | some a =>
      obtain ⟨y, rfl, hy⟩ := ho
      cases a <;> simp only [idxV, reduceCtorEq] at hn
      split at hn
      · rename_i k i hi
        cases hn
        obtain rfl : y = _ := hy
        exact .inr ⟨_, _, rfl, rfl, hi, rfl⟩
      · cases hn
  have bound : ∀ {k : IntKind} {i : Int} {y : Nat} {c : BoundsCode}, 0 ≤ i → i.toNat ≤ y → (Instr.sliceBound (.int k i) y c).run P w = .ok i.toNat w := by
    intro k i y c h0 hy
    have : 0 ≤ i ∧ i ≤ y := ⟨h0, by omega⟩
    simp [Instr.sliceBound, asIntOf, this]
  rcases key hlo el with ⟨rfl, rfl, rfl⟩ | ⟨kl, il, rfl, _, hl0, rfl⟩ <;> rcases key hhi eh with ⟨rfl, rfl, rfl⟩ | ⟨kh, ih, rfl, hs, hh0, rfl⟩ <;> rcases key hmx em with ⟨rfl, rfl, rfl⟩ | ⟨km, im, rfl, hms, hm0, rfl⟩
  · simp [Instr.sliceBounds]
  · simp [hms] at h5
  · have := bound (k := kh) (c := if b then .sliceAcap else .sliceAlen) hh0 (show ih.toNat ≤ capC by omega)
    simp [Instr.sliceBounds, this]
  · have e1 := bound (k := km) (c := if b then .slice3Acap else .slice3Alen) hm0 (show im.toNat ≤ capC by omega)
    have e2 := bound (k := kh) (c := .slice3B) hh0 h2
    simp [Instr.sliceBounds, e1, e2, hms]
  · have := bound (k := kl) (c := .sliceB) hl0 h1
    simp [Instr.sliceBounds, this]
  · simp [hms] at h5
  · have e1 := bound (k := kh) (c := if b then .sliceAcap else .sliceAlen) hh0 (show ih.toNat ≤ capC by omega)
    have e2 := bound (k := kl) (c := .sliceB) hl0 h1
    simp [Instr.sliceBounds, e1, e2]
  · have e1 := bound (k := km) (c := if b then .slice3Acap else .slice3Alen) hm0 (show im.toNat ≤ capC by omega)
    have e2 := bound (k := kh) (c := .slice3B) hh0 h2
    have e3 := bound (k := kl) (c := .slice3C) hl0 h1
    simp [Instr.sliceBounds, e1, e2, e3, hms]

theorem run_sliceV (hH : HR P E B H w) {t : TypeId} {a v : AV} {x : Value} {lo hi mx : Option AV} {lo' hi' mx' : Option Value} (h : sliceV P H t a lo hi mx = some v) (hx : VR E a x)
    (hlo : VRo E lo lo') (hhi : VRo E hi hi') (hmx : VRo E mx mx') : Got P E w v (Instr.sliceAt t x lo' hi' mx') := by
  unfold sliceV at h
  split at h
  · rename_i s hu
    obtain rfl : x = _ := hx
    split at h
    · cases h
    · rename_i hms
      obtain ⟨l, el, h⟩ := Option.bind_eq_some_iff.1 h
      obtain ⟨hh, eh, h⟩ := Option.bind_eq_some_iff.1 h
      split at h
      · rename_i hc
        cases h
        have hmx0 : mx = none := by cases mx <;> simp_all
        subst hmx0
        cases hmx
        have hb := run_sliceBounds (P := P) (w := w) (b := false) (capC := s.length) hlo hhi (show VRo E none none from rfl) el eh (show idxV s.length none = some s.length from rfl) hc.1 hc.2 (Nat.le_refl _) (Nat.le_refl _) (by simp)
        refine ⟨.string ((⟨s.toArray⟩ : ByteArray).extract l hh), ?_, ?_⟩
        · have hsz : (⟨s.toArray⟩ : ByteArray).size = s.length := rfl
          simp [Instr.sliceAt, run_underlying hu, Instr.slice, hsz, hb]
        · show _ = _
          congr 1
          apply ByteArray.ext
          have : ((⟨s.toArray⟩ : ByteArray).extract l hh).data = s.toArray.extract l hh := by simp [ByteArray.data_extract]
          rw [this]
          apply Array.ext'
          simp [List.extract_eq_take_drop]
      · cases h
  · rename_i e p len cap hu
    obtain ⟨l, el, h⟩ := Option.bind_eq_some_iff.1 h
    obtain ⟨hh, eh, h⟩ := Option.bind_eq_some_iff.1 h
    obtain ⟨m, em, h⟩ := Option.bind_eq_some_iff.1 h
    split at h
    · rename_i hc
      obtain ⟨h1, h2, h3, h5⟩ := hc
      cases hs : szOf P e with
      | none => rw [hs] at h; cases p <;> simp at h
      | some s =>
      rw [hs] at h
      cases p with
      | none =>
        simp only [Option.some.injEq] at h
        subst h
        obtain ⟨rfl, hlc⟩ := hx
        have hb := run_sliceBounds (P := P) (w := w) (b := true) (capC := cap) hlo hhi hmx el eh em h1 h2 h3 (Nat.le_refl _) h5
        have hm : (if mx.isSome = true then m else cap) = m := by
          cases mx with
          | none => simp only [idxV, Option.some.injEq] at em; simp [em]
          | some _ => rfl
        rw [hm] at hb
        refine ⟨.slice none (hh - l) (m - l), ?_, rfl, by omega⟩
        simp [Instr.sliceAt, run_underlying hu, Instr.slice, hb, run_sizeOf' hs]
      | some p =>
        obtain ⟨b, o⟩ := p
        simp only at h
        split at h
        · rename_i hst
          cases h
          obtain ⟨L, a', c', hL, rfl, hlc, hcc, hsp, ha⟩ := hx
          have hle : cap ≤ c' := by rcases hcc with e | ⟨_, e⟩ <;> omega
          have hb := run_sliceBounds (P := P) (w := w) (b := true) (capC := c') hlo hhi hmx el eh em h1 h2 h3 hle h5
          refine ⟨.slice (some (if (if mx.isSome = true then m else c') = l then a' else a'.add (l * s))) (hh - l) ((if mx.isSome = true then m else c') - l), ?_, ?_⟩
          · generalize (if mx.isSome = true then m else c') = M at hb ⊢
            simp only [Instr.sliceAt, Sem.run_bind, run_underlying hu, Result.andThen_ok, Instr.slice, hb, run_sizeOf' hs, Sem.run_pure]
            congr 2
            by_cases hml : M = l <;> simp [hml]
          · generalize hM : (if mx.isSome = true then m else c') = M
            have hMl : l ≤ M := by split at hM <;> omega
            refine ⟨L, _, _, hL, rfl, by omega, ?_, ?_, ?_⟩
            · -- the room
              have hMm : M = m ∨ (mx = none ∧ M = c' ∧ m = cap) := by
                cases mx with
                | none => simp only [idxV, Option.some.injEq] at em; exact .inr ⟨rfl, by simpa using hM.symm, em.symm⟩
                | some _ => exact .inl (by simpa using hM.symm)
              rcases hMm with rfl | ⟨rfl, rfl, rfl⟩
              · exact .inl rfl
              · rcases hcc with rfl | ⟨he, rfl⟩
                · exact .inl rfl
                · by_cases hex : L.extra = 0
                  · exact .inl (by omega)
                  · refine .inr ⟨?_, by omega⟩
                    rcases hst with rfl | hst
                    · simpa using he
                    · unfold AH.steps at hst
                      split at hst
                      · rename_i cs e' fl hb'
                        obtain ⟨L', hL', X, lo2, hi2, q1, q2, q3, q4, q5, q6, q7, q8⟩ := hH.obj _ _ hb'
                        rw [hL] at hL'; cases hL'
                        have hopn : fl.opn = true := by
                          cases ho : fl.opn with
                          | true => rfl
                          | false => exact absurd (q7 ho) hex
                        simp only [hopn, Bool.not_true, Bool.false_or, beq_iff_eq] at hst
                        have := cellsOf_eq hst
                        have hse : s = L.esz := by omega
                        subst hse
                        rw [← he, Nat.sub_mul]
                        have : l * L.esz ≤ m * L.esz := Nat.mul_le_mul_right _ (by omega)
                        omega
                      · cases hst
            · split
              · exact hsp
              · unfold Addr.add; split <;> simp_all
            · by_cases hml : M = l
              · exact .inr (by omega)
              · rw [if_neg hml]
                have hc0 : c' ≠ 0 := by
                  intro h0
                  have : M = m ∨ M = c' := by split at hM <;> simp_all
                  rcases this with rfl | rfl <;> omega
                rcases ha with rfl | h0
                · exact .inl (by rw [addr_add, Nat.add_assoc])
                · exact absurd h0 hc0
        · cases h
    · cases h
  · rename_i n e b o hu
    obtain ⟨l, el, h⟩ := Option.bind_eq_some_iff.1 h
    obtain ⟨hh, eh, h⟩ := Option.bind_eq_some_iff.1 h
    obtain ⟨m, em, h⟩ := Option.bind_eq_some_iff.1 h
    split at h
    · rename_i hc
      obtain ⟨h1, h2, h3, h5⟩ := hc
      split at h
      · rename_i s cs e' fl hs hb'
        split at h
        · cases h
        · rename_i hop
          cases h
          obtain ⟨L, hL, rfl⟩ := hx
          have hb := run_sliceBounds (P := P) (w := w) (b := false) (capC := n) hlo hhi hmx el eh em h1 h2 h3 (Nat.le_refl _) h5
          have hm : (if mx.isSome = true then m else n) = m := by
            cases mx with
            | none => simp only [idxV, Option.some.injEq] at em; simp [em]
            | some _ => rfl
          rw [hm] at hb
          refine ⟨.slice (some (if m = l then ⟨L.blk, L.off + o, none⟩ else (⟨L.blk, L.off + o, none⟩ : Addr).add (l * s))) (hh - l) (m - l), ?_, L, _, m - l, hL, rfl, by omega, .inl rfl, ?_, ?_⟩
          · simp [Instr.sliceAt, run_underlying hu, Instr.sureAddr, hb, run_sizeOf' hs]
          · split
            · rfl
            · rw [addr_add]
          · by_cases hml : m = l
            · exact .inr (by omega)
            · rw [if_neg hml, addr_add]; exact .inl (by rw [Nat.add_assoc])
      · cases h
    · cases h
  · cases h

end
end Go.Am

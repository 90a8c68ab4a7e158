/- The abstract machine: the model's own functions; where a row's call begins; what it says at its end. -/
import Derived.Test.YtlkdhhkncoekgaaDoorAmO
import Derived.ProofKit
import Derived.WalkKit
import Derived.OpenShut
import Derived.Lib.LaidTab
import Derived.Lib.Bytealg
import Derived.Deep.DeepHandedRow
import Derived.Stop.LaidErr
namespace Go.Am
open Go.RowKit Go.ChangeShapes

/-! ### The model's own functions -/

inductive XK where
  | indexByte
  | countByte
  | same
  deriving DecidableEq

def XK.sem : XK → Array Value → Sem Value
  | .indexByte => Extern.BytealgIndexByte.indexByte
  | .countByte => Extern.BytealgCount.count
  | .same => Extern.AbiNoEscape.same

def XK.val (k : XK) (vs : List AV) : Option AV :=
  match k, vs with
  | .indexByte, [.str s, .int .u8 c] => some (.int .i64 (Lib.indexByte s c.toNat.toUInt8))
  | .countByte, [.str s, .int .u8 c] => some (.int .i64 (Lib.countByte s c.toNat.toUInt8))
  | .same, [x] => some x
  | _, _ => none

def extOf (l : List (FuncId × XK)) : Ext := fun g vs H => (l.lookup g).bind fun k => (k.val vs).map (·, H)

theorem XK.sim {P : Program} {E : Env} {k : XK} {vs : List AV} {v : AV} {args : Array Value} (h : k.val vs = some v) (ha : VRs E vs args.toList) (w : World) : ∃ x, (k.sem args).run P w = .ok x w ∧ VR E v x := by
  unfold XK.val at h
  split at h
  · rename_i s c
    cases h
    obtain ⟨x, xs, hx, rfl, y, ys, rfl, rfl, rfl⟩ := ha
    obtain rfl : args = #[.string ⟨s.toArray⟩, .int .u8 c] := Array.ext' hx
    exact ⟨_, Lib.run_indexByteString (P := P) ⟨s.toArray⟩ c w, rfl⟩
  · rename_i s c
    cases h
    obtain ⟨x, xs, hx, rfl, y, ys, rfl, rfl, rfl⟩ := ha
    obtain rfl : args = #[.string ⟨s.toArray⟩, .int .u8 c] := Array.ext' hx
    exact ⟨_, Lib.run_countString (P := P) ⟨s.toArray⟩ c w, rfl⟩
  · cases h
    obtain ⟨x, xs, hx, hv, rfl⟩ := ha
    obtain rfl : args = #[x] := Array.ext' hx
    exact ⟨x, rfl, hv⟩
  · cases h

/-- Function g of the program is this one of the model's. -/
def XOk (P : Program) (g : FuncId) (k : XK) : Prop := ∀ args w, (callFunc g args).run P w = ((k.sem args).run P w).andThen fun v w' => .ok (.value v) w'

theorem lookup_mem {α : Type} {g : Nat} {k : α} : ∀ {l : List (Nat × α)}, l.lookup g = some k → (g, k) ∈ l
  | [], h => by cases h
  | (a, b) :: l, h => by
    rw [List.lookup_cons] at h
    split at h
    · rename_i e
      simp only [beq_iff_eq] at e
      cases h; subst e; simp
    · exact List.mem_cons_of_mem _ (lookup_mem h)

theorem extOf_ok {P : Program} {l : List (FuncId × XK)} (h : ∀ p ∈ l, XOk P p.1 p.2) : ExtOk P (extOf l) := by
  intro g vs H v H' hx
  obtain ⟨k, hk, hx⟩ := Option.bind_eq_some_iff.1 hx
  obtain ⟨u, hu, hx⟩ := Option.map_eq_some_iff.1 hx
  cases hx
  have hmem := lookup_mem hk
  refine .inr fun E B w args' hH ha => ?_
  obtain ⟨x, hx, hv⟩ := XK.sim (P := P) hu ha w
  exact ⟨v, _, E, w, x, by rw [h _ hmem, hx]; rfl, ⟨rfl, rfl⟩, Env.le.refl E, hH, hv, Below.refl _ w⟩

/-! ### The heap where a row's call begins -/

/-- Tables that lie: the variable's number, its elements' type, its cells. -/
abbrev Tabs := List (Nat × TypeId × List AV)

def startH (n : Nat) : Tabs → AH
  | [] => ⟨n, .nil⟩
  | (g, e, cs) :: l => (startH n l).set g (.cells cs e { own := false })

def tabSize (l : Tabs) (b : Nat) : Nat :=
  match l with
  | [] => 0
  | (g, _, cs) :: l => if b = g then cs.length else tabSize l b
def tabElem (l : Tabs) (b : Nat) : TypeId :=
  match l with
  | [] => 0
  | (g, e, _) :: l => if b = g then e else tabElem l b

def startE (P : Program) (n : Nat) (l : Tabs) : Env := fun b => if b < n then some ⟨b, 0, tabSize l b, P.cellsOf (tabElem l b), 0⟩ else none

/-- The table lies in the world. -/
def TabAt (W : World) (g : Nat) (e : TypeId) (cs : List AV) : Prop := ∃ X fr, W.heap[g]? = some (.cells X e fr) ∧ cs.length = X.size ∧ (∀ E, VRs E cs X.toList) ∧ ∀ v ∈ cs, v.one = true

theorem startH_n (n : Nat) (l : Tabs) : (startH n l).n = n := by
  induction l with
  | nil => rfl
  | cons p l ih => obtain ⟨g, e, cs⟩ := p; simpa [startH] using ih

theorem startH_get {n : Nat} {l : Tabs} {b : Nat} {o : AObj} (h : (startH n l).get b = some o) : ∃ cs, o = .cells cs (tabElem l b) { own := false } ∧ tabSize l b = cs.length ∧ ∃ e, (b, e, cs) ∈ l ∧ e = tabElem l b := by
  induction l with
  | nil => cases h
  | cons p l ih =>
    obtain ⟨g, e, cs⟩ := p
    simp only [startH, AH.get_set] at h
    by_cases hb : b = g
    · subst hb
      rw [if_pos rfl] at h; cases h
      exact ⟨cs, by simp [tabElem], by simp [tabSize], e, by simp, by simp [tabElem]⟩
    · rw [if_neg hb] at h
      obtain ⟨cs', h1, h2, e', h3, h4⟩ := ih h
      exact ⟨cs', by simp [tabElem, hb, h1], by simp [tabSize, hb, h2], e', by simp [h3], by simp [tabElem, hb, h4]⟩

theorem HR.start {P : Program} {W : World} {l : Tabs} (hl : ∀ t ∈ l, t.1 < P.globals.size ∧ TabAt W t.1 t.2.1 t.2.2) :
    HR P (startE P P.globals.size l) (fun k => k < W.heap.size) (startH P.globals.size l) W := by
  refine ⟨fun b L hb => ?_, fun b o hb => ?_, fun _ h => h, fun g hg => ⟨_, if_pos hg, rfl, rfl⟩, fun b b' o o' L L' hne hb hb' ho _ _ _ => ?_⟩
  · rw [startH_n]
    unfold startE at hb
    split at hb
    · assumption
    · cases hb
  · obtain ⟨cs, rfl, hs, e, hm, he⟩ := startH_get hb
    obtain ⟨hg, X, fr, h1, h2, h3, h4⟩ := hl _ hm
    simp only at hg h1 h2 h3 h4
    refine ⟨_, if_pos hg, X, fr.1, fr.2, by rw [h1, he], hs, rfl, by simp [h2], ?_, fun h => (by cases h), fun _ => rfl, h4, fun h => (by cases h)⟩
    have := h3 (startE P P.globals.size l)
    rw [h2]
    simpa [← Array.length_toList] using this
  · obtain ⟨cs, rfl, _⟩ := startH_get hb
    cases ho

/-! ### The tables out of a row's list -/

theorem cells_of_pairs {H : Type} {enc : TypeId × Value → H} {P : Program} {w : World} {base : Nat} {sp : Nat → Bool} {held : Bool} {fuel : Nat} {t e : TypeId} {n : Nat} {k : IntKind} {cs : List Value} {zs : List (Int × Int)} {p : List MemPlace} {f0 f1 : Field}
    (ht : P.underlying t = some (.array n e)) (he : P.underlying e = some (.struct #[f0, f1])) (h0 : P.underlying f0.type = some (.int k)) (h1 : P.underlying f1.type = some (.int k)) (ho0 : f0.offset = 0) (ho1 : f1.offset = 1)
    (hc0 : P.cellsOf f0.type = 1) (hc1 : P.cellsOf f1.type = 1) (hce : P.cellsOf e = 2) (hct : P.cellsOf t = n * 2)
    (h : DataW.trod enc P w base sp held fuel t cs = some (.agg (zs.map fun z => .agg [.lit (.int k z.1), .lit (.int k z.2)]), p)) : cs = zs.flatMap fun z => [Value.int k z.1, .int k z.2] := by
  cases fuel with
  | zero => simp [DataW.trod] at h
  | succ fuel =>
    simp only [DataW.trod, ht, hce, hct] at h
    split at h
    · rename_i hl
      obtain ⟨xs, hm, hx⟩ := Option.map_eq_some_iff.1 h
      have hxs : xs.map (·.1) = zs.map fun z => (DataW.agg [.lit (.int k z.1), .lit (.int k z.2)] : DataW H) := by
        have := congrArg Prod.fst hx
        simpa using this
      have hxl : xs.length = n := by simpa using Lib.mapM_length hm
      have hzl : zs.length = n := by
        have := congrArg List.length hxs
        simp at this
        omega
      have hpair : ∀ i, i < n → ∃ z, zs[i]? = some z ∧ (cs.drop (i * 2)).take 2 = [.int k z.1, .int k z.2] := by
        intro i hi
        obtain ⟨b, hb, hf⟩ := Lib.mapM_at hm i i (by simp [hi])
        obtain ⟨y0, y1, m, rfl, hlen, g0, g1⟩ := trod_struct2 he hf
        obtain ⟨a0, c0, rfl, _⟩ := DataW.trod_int h0 g0
        obtain ⟨a1, c1, rfl, _⟩ := DataW.trod_int h1 g1
        have h2 : (xs.map (·.1))[i]? = some (DataW.agg [.lit (.int k a0), .lit (.int k a1)] : DataW H) := by simp [hb]
        rw [hxs] at h2
        simp only [List.getElem?_map, Option.map_eq_some_iff, DataW.agg.injEq, List.cons.injEq, DataW.lit.injEq, Lit.int.injEq, true_and, and_true] at h2
        obtain ⟨z, hz, rfl, rfl⟩ := h2
        refine ⟨z, hz, ?_⟩
        rw [ho0, hc0] at c0; rw [ho1, hc1] at c1
        rw [hce] at hlen
        match h5 : (cs.drop (i * 2)).take 2, hlen with
        | [u, v], _ =>
          rw [h5] at c0 c1
          simp at c0 c1
          rw [c0, c1]
      clear hm h hx
      have key : ∀ (m : Nat) (cs : List Value) (zs : List (Int × Int)), cs.length = m * 2 → zs.length = m → (∀ i, i < m → ∃ z, zs[i]? = some z ∧ (cs.drop (i * 2)).take 2 = [.int k z.1, .int k z.2]) → cs = zs.flatMap fun z => [Value.int k z.1, .int k z.2] := by
        intro m
        induction m with
        | zero => intro cs zs h1 h2 _; simp at h1 h2; subst h1; subst h2; rfl
        | succ m ih =>
          intro cs zs h1 h2 h3
          match cs, zs, h1, h2, h3 with
          | [], _, h1, _, _ => exfalso; simp at h1
          | [_], _, h1, _, _ => exfalso; simp at h1; omega
          | _ :: _ :: _, [], _, h2, _ => exact absurd h2 (by simp)
          | a :: b :: cs, z :: zs, h1, h2, h3 =>
            obtain ⟨z', hz', e⟩ := h3 0 (by omega)
            simp at hz' e
            subst hz'
            rw [e.1, e.2, ih cs zs (by simp at h1; omega) (by simpa using h2) fun i hi => by
              obtain ⟨z', hz', e'⟩ := h3 (i + 1) (by omega)
              refine ⟨z', by simpa using hz', ?_⟩
              rw [show (i + 1) * 2 = i * 2 + 2 by omega] at e'
              simpa using e']
            rfl
      exact key n cs zs hl hzl hpair
    · cases h

theorem tab_of_cells {W : World} {P : Program} {name : String} {cs : Array Value} {g : Nat} (hg : P.globalNamed name = some g) (hv : W.var? P name = some cs) {vs : List AV} (h : ∀ E, VRs E vs cs.toList) (h1 : ∀ v ∈ vs, v.one = true) : ∃ e, TabAt W g e vs := by
  unfold World.var? at hv
  rw [hg] at hv
  simp only [Option.bind_some] at hv
  split at hv
  · rename_i X e fr hX
    cases hv
    have hl := (h (fun _ => none)).length
    exact ⟨e, cs, fr, hX, by simpa using hl, h, h1⟩
  · cases hv

def intsAV (k : IntKind) (zs : List Int) : List AV := zs.map (AV.int k)

theorem intsAV_sim (k : IntKind) (zs : List Int) (E : Env) : VRs E (intsAV k zs) (zs.map (Value.int k)) := by
  induction zs with
  | nil => rfl
  | cons z zs ih => exact ⟨_, _, rfl, rfl, ih⟩
theorem intsAV_one (k : IntKind) (zs : List Int) : ∀ v ∈ intsAV k zs, v.one = true := by
  intro v hv
  simp only [intsAV, List.mem_map] at hv
  obtain ⟨z, _, rfl⟩ := hv
  rfl

theorem Below.old {W W' : World} (h : Below (fun k => k < W.heap.size) W W') : Go.RowKit.Below W.heap.size W W' := ⟨h.os, h.tape, h.output, h.size, h.block⟩

/-! ### What a law's row asks at the end -/
section
variable {H : Type} {enc : TypeId × Value → H} {P : Program}

theorem trodAll_stays (hl : laidOutB P = true) {W W' : World} (hb : Go.RowKit.Below W.heap.size W W') {sp : Nat → Bool} : ∀ {ts : List TypeId} {vs : List Value} {ds : List (DataW H)} {ps : List MemPlace}, (ts.all fun t => P.readableRec t && decide (t < P.types.size)) = true →
    DataW.TrodAll enc P W 0 (fun _ => true) true ts vs ds ps → (∀ x ∈ ps, x.block < W.heap.size) → (∀ x ∈ ps, sp x.block = true) → DataW.TrodAll enc P W' 0 sp true ts vs ds ps
  | [], _, _, _, _, h, _, _ => by
    obtain ⟨rfl, rfl, rfl⟩ := trodAll_nil h
    rfl
  | t :: ts, _, _, _, hr, h, hlt, hsp => by
    obtain ⟨v, vs, d, ds, p, q, rfl, rfl, rfl, h1, h2⟩ := trodAll_cons h
    simp only [List.all_cons, Bool.and_eq_true, decide_eq_true_eq] at hr
    exact ⟨p, q, WideElems.Trod_stays hl hr.1.1 hr.1.2 h1 (fun x hx => hb.same (hlt x (by simp [hx]))) (fun x hx => hsp x (by simp [hx])),
      trodAll_stays hl hb hr.2 h2 (fun x hx => hlt x (by simp [hx])) (fun x hx => hsp x (by simp [hx])), rfl⟩

/-- A law's row: the function returns true; below the old heap's end nothing has turned. -/
theorem post_law (hl : laidOutB P = true) {f : Func} {s : ChangeSpec} {apart fresh handsOn again : Bool} {W W' : World} {args : Array Value} {ds gs : List (DataW H)} {before : List MemPlace} {tb : TypeId}
    (hW : DataW.Whole enc P f.params.toList s.vars apart W args.toList ds gs before) (hv : s.vars = []) (hr : (f.params.toList.all fun t => P.readableRec t && decide (t < P.types.size)) = true)
    (hb : Go.RowKit.Below W.heap.size W W') (hs : s.fn H (ds ++ gs) = { results := [.lit (.bool true)], args := ds }) (ht : f.resultTypes = #[tb]) (hu : P.underlying tb = some .bool) :
    s.post enc P f apart fresh handsOn again W args (.bool true) W' := by
  have hlt := hW.lt
  have hW0 := hW
  obtain ⟨p, q, hA, hV, rfl, hz, hn⟩ := hW0
  rw [hv] at hV
  obtain ⟨rfl, rfl⟩ := trodVars_none hV
  simp only [List.append_nil] at hs hlt hz hn hW
  have hsv : (s.fn H ds).vars = [] := by rw [hs]
  have hargs : ∀ sp : Nat → Bool, (∀ x ∈ p, sp x.block = true) → DataW.TrodAll enc P W' 0 sp true f.params.toList args.toList (s.fn H (ds ++ [])).args p := fun sp hsp => by
    rw [List.append_nil, hs]
    exact trodAll_stays hl hb hr hA (fun x hx => hlt x hx) hsp
  have hvars : ∀ sp : Nat → Bool, DataW.TrodVars enc P W' sp s.vars (s.fn H (ds ++ [])).vars [] := fun sp => by
    rw [List.append_nil, hv, hsv]; rfl
  have hres : ∀ (b : Nat) (sp : Nat → Bool) (hd : Bool), DataW.TrodAll enc P W' b sp hd f.resultTypes.toList ((Value.bool true).resultList f.resultTypes.size) (s.fn H (ds ++ [])).results [] := fun b sp hd => by
    rw [List.append_nil, hs, ht]
    exact trodAll_cons_mk (shut_bool hu _) trodAll_mk0
  have hold : ∀ x ∈ p, (fun b => decide (b < W.heap.size)) x.block = true := fun x hx => by simpa using hlt x hx
  refine ⟨ds, [], p, [], p, [], hW, hres _ _ _, hargs _ hold, hvars _, World.keptBut_mono (fun _ hp => ⟨hp, Or.inr (by simpa using hp)⟩) (hb.frame _), fun _ => ?_⟩
  refine ⟨ok_one ht rfl (okWide_bool_mk hu _), _, _, ([] ++ p) ++ [], ⟨[] ++ p, [], trodAll_append (hargs _ (fun _ _ => rfl)) (hres _ _ _), hvars _, rfl, ?_, ?_⟩, ?_⟩
  · intro b off hp
    have hp' : MemPlace.cell b off ∈ p := by simpa using hp
    rw [hb.frozen (p := ⟨b, off, none⟩) (hlt _ hp')]
    exact hz b off hp'
  · intro ha
    simpa using hn ha
  · intro x hx _
    simpa using hx
end

end Go.Am

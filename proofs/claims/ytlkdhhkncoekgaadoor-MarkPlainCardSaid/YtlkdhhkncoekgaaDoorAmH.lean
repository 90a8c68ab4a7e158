/- The abstract machine: conversions, iterators over strings, unsafe.String; then every operation that calls no function. -/
import Derived.Test.YtlkdhhkncoekgaaDoorAmG
import Derived.Laws.BytesString
import Derived.Lib.UnsafeStr
namespace Go.Am
open Go.RowKit

section
variable {P : Program} {E : Env} {B : Bnd} {H : AH} {w : World}

theorem decode_eq (s : List UInt8) (i : Nat) : Utf8.decode ⟨s.toArray⟩ i = decodeL s i := by
  have h1 : ∀ k, ((⟨s.toArray⟩ : ByteArray).get! (i + k)).toNat = rune1 s i k := by
    intro k
    simp only [rune1, ByteArray.get!]
    congr 1
    by_cases h : i + k < s.length
    · simp [h]
    · simp [h]; rfl
  have h2 : (⟨s.toArray⟩ : ByteArray).size = s.length := rfl
  unfold Utf8.decode decodeL
  simp only [h1, h2]

theorem encode_eq (r : Int) : Utf8.encode r = ⟨(encodeL r).toArray⟩ := by
  unfold Utf8.encode encodeL
  simp only []
  split <;> (try split) <;> (try split) <;> (try split) <;> rfl

theorem bytesOfCells_sim : ∀ {cs : List AV} {ys : List Value} {s : List UInt8}, VRs E cs ys → bytesOfCells cs = some s → ∃ ns : List Int, ys = ns.map (Value.int .u8) ∧ s = ns.map fun n => UInt8.ofNat n.toNat
  | [], _, s, h, hs => by simp only [bytesOfCells, Option.some.injEq] at hs; subst hs; cases h; exact ⟨[], rfl, rfl⟩
  | c :: cs, _, s, h, hs => by
    obtain ⟨y, ys, rfl, hy, h⟩ := h
    unfold bytesOfCells at hs
    split at hs
    · rename_i heq; cases heq
    · rename_i n l heq
      cases heq
      obtain ⟨t, ht, rfl⟩ := Option.map_eq_some_iff.1 hs
      obtain rfl : y = _ := hy
      obtain ⟨ns, rfl, rfl⟩ := bytesOfCells_sim h ht
      exact ⟨n :: ns, rfl, rfl⟩
    · cases hs

def vbytes (s : List UInt8) : List Value := s.map fun b => .int .u8 b.toNat
@[simp] theorem vbytes_length (s : List UInt8) : (vbytes s).length = s.length := by simp [vbytes]

theorem foldl_push (ns : List Int) : ∀ r : ByteArray, ns.foldl (fun r n => r.push (UInt8.ofNat n.toNat)) r = ⟨r.data ++ (ns.map fun n => UInt8.ofNat n.toNat).toArray⟩ := by
  induction ns with
  | nil => intro r; simp
  | cons n ns ih => intro r; simp only [List.foldl_cons, ih, List.map_cons]; simp [ByteArray.push]

theorem freeze_new (w : World) (X : Array Value) (e : TypeId) : (w.alloc (.cells X e)).freeze ⟨w.heap.size, X.size, none⟩ 1 = w.alloc (.cells X e (X.size, X.size + 1)) := by
  unfold World.freeze
  simp only [Nat.succ_ne_zero, if_false]
  unfold World.alloc
  congr 1
  apply Array.ext_getElem?
  intro i
  rw [Array.getElem?_modify]
  by_cases h : w.heap.size = i
  · subst h; simp
  · simp only [if_neg h]
    rw [Array.getElem?_push, Array.getElem?_push]
    simp [Ne.symm h]

theorem freeze_put {g : Nat} {X : Array Value} {e : TypeId} {lo hi : Nat} (h : w.heap[g]? = some (.cells X e (lo, hi))) {off n : Nat} (hn : n ≠ 0) :
    w.freeze ⟨g, off, none⟩ n = w.putObj g (.cells X e (if lo == hi then (off, off + n) else (min lo off, max hi (off + n)))) := by
  unfold World.freeze World.putObj
  rw [if_neg hn]
  congr 1
  apply Array.ext_getElem?
  intro i
  rw [Array.getElem?_modify]
  by_cases e : g = i
  · subst e; obtain ⟨hlt, hx⟩ := Array.getElem?_eq_some_iff.1 h; simp [hlt, hx]
  · simp [e, Array.getElem?_setIfInBounds_ne e]

theorem run_convV (hH : HR P E B H w) {s d : TypeId} {a v : AV} {x : Value} {H' : AH} (h : convV P H s d a = some (v, H')) (hx : VR E a x) : Made P E B w v H' (convert s d x) := by
  unfold convV at h
  split at h
  · rename_i sd k k' n hs hd
    cases h; obtain rfl : x = _ := hx
    refine Got.made hH ⟨_, ?_, rfl⟩
    simp [convert, run_underlying hs, run_underlying hd, Conv.intToInt]
  · rename_i sd k' n hs hd
    cases h; obtain rfl : x = _ := hx
    refine Got.made hH ⟨.string (Utf8.encode n), ?_, ?_⟩
    · simp [convert, run_underlying hs, run_underlying hd, Conv.intToString]
    · exact congrArg Value.string (encode_eq n)
  · rename_i sd u hs hd
    cases h; obtain rfl : x = _ := hx
    refine Got.made hH ⟨_, ?_, rfl⟩
    simp [convert, run_underlying hs, run_underlying hd]
  · rename_i sd e u hs hd
    obtain rfl : x = _ := hx
    split at h
    · rename_i he
      split at h
      · rename_i h1
        cases h
        have hw2 : HR P E B H w.drew := hH.world rfl
        have hcell := cellsOf_eq h1
        obtain ⟨cap, hcap, hrun⟩ : ∃ cap, u.length ≤ cap ∧ (convert s d (.string ⟨u.toArray⟩)).run P w = .ok (.slice (some ⟨w.heap.size, 0, none⟩) u.length cap)
            (w.drew.alloc (.cells ((vbytes u).toArray ++ Array.replicate (cap - u.length) (Value.int .u8 0)) e (cap, cap + 1))) := by
          refine ⟨(Question.appendCap u.length 0 e).cut (w.tape w.drawn (.appendCap u.length 0 e)), by simp [Question.cut], ?_⟩
          generalize hc : (Question.appendCap u.length 0 e).cut (w.tape w.drawn (.appendCap u.length 0 e)) = cap
          have hcap : u.length ≤ cap := by rw [← hc]; simp [Question.cut]
          have hsz : (⟨u.toArray⟩ : ByteArray).size = u.length := rfl
          have hX : ((vbytes u).toArray ++ Array.replicate (cap - u.length) (Value.int .u8 0)).size = cap := by simp; omega
          have hf := freeze_new w.drew ((vbytes u).toArray ++ Array.replicate (cap - u.length) (Value.int .u8 0)) e
          rw [hX] at hf
          have hchoose : (choose (.appendCap u.length 0 e)).run P w = .ok cap w.drew := by
            rw [run_choose, if_neg (by simp [Question.forced]), hc]; rfl
          have hshape : (w.drew.alloc (.cells ((vbytes u).toArray ++ Array.replicate (cap - u.length) (Value.int .u8 0)) e)).shape? w.heap.size = some (e, cap) := by
            have : (w.drew.alloc (.cells ((vbytes u).toArray ++ Array.replicate (cap - u.length) (Value.int .u8 0)) e)).heap[w.heap.size]? = some (.cells ((vbytes u).toArray ++ Array.replicate (cap - u.length) (Value.int .u8 0)) e) := World.alloc_heap_new _ _
            simp only [World.shape?, this, hX]
          have hmap : (⟨u.toArray⟩ : ByteArray).data.map (fun b => Value.int .u8 b.toNat) = (vbytes u).toArray := by simp [vbytes]
          have hms : (markStringish ⟨w.heap.size, 0, none⟩).run P (w.drew.alloc (.cells ((vbytes u).toArray ++ Array.replicate (cap - u.length) (Value.int .u8 0)) e)) =
              .ok () (w.drew.alloc (.cells ((vbytes u).toArray ++ Array.replicate (cap - u.length) (Value.int .u8 0)) e (cap, cap + 1))) := by
            unfold markStringish
            simp only [Sem.run_bind, run_shape, hshape, Result.andThen_ok, run_freeze]
            exact congrArg (Result.ok ()) hf
          have hnew : ∀ X : Array Value, (newRow e X).run P w.drew = .ok ⟨w.heap.size, 0, none⟩ (w.drew.alloc (.cells X e)) := fun X => rfl
          simp only [convert, Sem.run_bind, run_underlying hs, run_underlying hd, run_underlying he, Result.andThen_ok, Conv.stringToBytes, hsz, hchoose, hmap, hnew, hms, Sem.run_pure]
        have hX : ((vbytes u).toArray ++ Array.replicate (cap - u.length) (Value.int .u8 0)).size = cap := by simp; omega
        obtain ⟨k1, k2, k3⟩ := new_row hw2 (cs := byteCellsA u) (X := (vbytes u).toArray ++ Array.replicate (cap - u.length) (Value.int .u8 0)) (e := e) (fl := { opn := true, sish := true }) (extra := cap - u.length)
          (by
            have hb : VRs E (byteCellsA u) (vbytes u) := VRs.bytes u
            have e3 : ((vbytes u).toArray ++ Array.replicate (cap - u.length) (Value.int .u8 0)).toList = (vbytes u) ++ List.replicate (cap - u.length) (Value.int .u8 0) := by simp
            rw [e3, hb.length, List.take_left']
            · exact hb
            · rfl)
          (by intro v hv; simp only [byteCellsA, List.mem_map] at hv; obtain ⟨b, _, rfl⟩ := hv; rfl) (by rw [hX, hcell]; simp [byteCellsA]; omega) (by simp) cap (cap + 1) (by rw [hX]; omega) (by simp)
        refine ⟨_, _, _, hrun, k1, ⟨_, _, cap, put_get _ _, rfl, Nat.le_refl _, .inr ⟨?_, ?_⟩, rfl, .inl rfl⟩, k2, ⟨k3.os, k3.tape, k3.output, k3.size, k3.block⟩⟩
        · show 0 + u.length * P.cellsOf e = (byteCellsA u).length
          rw [hcell]; simp [byteCellsA]
        · show cap = u.length + (cap - u.length); omega
      · cases h
    · cases h
  · rename_i t b o hs hd
    split at h
    · rename_i sz cs e fl hsz hb
      split at h
      · rename_i hc
        cases h
        obtain ⟨L, hL, rfl⟩ := hx
        obtain ⟨L', hL', ho⟩ := hH.obj _ _ hb
        rw [hL] at hL'; cases hL'
        obtain ⟨X, lo, hi, h1, h2, h3, h4, _⟩ := ho
        obtain ⟨j, hj, hjs⟩ := Option.map_eq_some_iff.1 hsz
        have hsh : w.shape? L.blk = some (e, X.size) := by simp only [World.shape?, h1]
        refine Got.made hH ⟨_, ?_, L, hL, rfl⟩
        simp [convert, run_underlying hs, run_underlying hd, Conv.unsafePointer, Conv.seenAt, viewAt, cellsIn, hsh, sizeOf, typeInfo, hj, hjs, hc.1]
        intro h
        omega
      · cases h
    · cases h
  · rename_i u b o hs hd
    split at h
    · rename_i sz cs e fl hsz hb
      split at h
      · rename_i hc
        cases h
        obtain ⟨L, hL, rfl⟩ := hx
        obtain ⟨L', hL', ho⟩ := hH.obj _ _ hb
        rw [hL] at hL'; cases hL'
        obtain ⟨X, lo, hi, h1, h2, h3, h4, h5, h6, h7, h8, h9⟩ := ho
        obtain ⟨j, hj, hjs⟩ := Option.map_eq_some_iff.1 hsz
        obtain ⟨g1, g2, _⟩ := h9 hc.1
        have hsh : w.shape? L.blk = some (e, cs.length) := by simp only [World.shape?, h1, g2]
        refine Got.made hH ⟨_, ?_, L, hL, rfl⟩
        have hlies : liesAt P P.depth e (cs.length / P.cellsOf e) (L.off + o) u 1 = true := by rw [g1, Nat.zero_add]; exact hc.2
        simp [convert, run_underlying hs, run_underlying hd, Conv.unsafePointer, Conv.seenAt, viewAt, hsh, variablesAt, hlies, sizeOf, typeInfo, hj]
      · cases h
    · cases h
  · rename_i e l c hs hd
    obtain ⟨rfl, _⟩ := hx
    split at h
    · rename_i he
      cases h
      refine Got.made hH ⟨.string .empty, ?_, rfl⟩
      rw [run_convert_bytes_string w s d e none l c hs he hd]; rfl
    · cases h
  · rename_i e b o l c hs hd
    split at h
    · rename_i he
      obtain ⟨cs, hr, h⟩ := Option.bind_eq_some_iff.1 h
      obtain ⟨t, ht, h⟩ := Option.map_eq_some_iff.1 h
      cases h
      obtain ⟨L, a', c', hL, rfl, hlc, hcc, hsp, ha⟩ := hx
      obtain ⟨L', ys, hL', hys, hrun⟩ := run_read hH hr
      rw [hL] at hL'; cases hL'
      obtain ⟨ns, rfl, rfl⟩ := bytesOfCells_sim hys ht
      have hrun' : (loadCells a' l).run P w = .ok (ns.map (Value.int .u8)).toArray w := by
        rcases ha with rfl | h0
        · exact hrun
        · have hl0 : l = 0 := by rcases hcc with e | ⟨_, e⟩ <;> omega
          subst hl0
          exact hrun
      refine Got.made hH ⟨_, by rw [run_convert_bytes_string w s d e _ l c' hs he hd, run_bytesToString w a' l c' ns hrun'], ?_⟩
      show _ = _
      rw [foldl_push]
      have e0 : ByteArray.empty.data = #[] := rfl
      rw [e0]
      simp
    · cases h
  · rename_i es e b o l c hs hd
    split at h
    · rename_i cs el fl he hb
      split at h
      · rename_i hc
        obtain ⟨hsd, hcap, hown, hwh, hfz, hsi⟩ := hc
        cases h
        obtain ⟨L, a', c', hL, rfl, hlc, hcc, hsp, ha⟩ := hx
        have hc0 : c' ≠ 0 := by rcases hcc with e | ⟨_, e⟩ <;> omega
        obtain rfl := ha.resolve_right hc0
        obtain ⟨L', hL', ho⟩ := hH.obj _ _ hb
        rw [hL] at hL'; cases hL'
        obtain ⟨X, lo, hi, q1, q2, q3, q4, q5, q6, q7, q8⟩ := ho
        obtain ⟨hBl, hF, hS⟩ := q6 hown
        obtain ⟨g1, g2, g3⟩ := q8.2 hwh
        have hlt : L.blk < w.heap.size := (Array.getElem?_eq_some_iff.1 q1).1
        have hfr := freeze_put (w := w) q1 (off := X.size) (n := 1) (by omega)
        rw [if_pos (by simpa using g3 hfz hsi)] at hfr
        have hsh : w.shape? L.blk = some (el, X.size) := by simp only [World.shape?, q1]
        have hms : (markStringish ⟨L.blk, L.off + o, none⟩).run P w = .ok () (w.putObj L.blk (.cells X el (X.size, X.size + 1))) := by
          unfold markStringish
          simp only [Sem.run_bind, run_shape, hsh, Result.andThen_ok, run_freeze]
          exact congrArg (Result.ok ()) hfr
        refine ⟨.slice (some ⟨L.blk, L.off + o, none⟩) l c', w.putObj L.blk (.cells X el (X.size, X.size + 1)), E, ?_, Env.le.refl E, ⟨L, _, c', hL, rfl, hlc, hcc, rfl, .inl rfl⟩,
          hH.turn hb hL hown ⟨X, X.size, X.size + 1, World.putObj_heap_same hlt, q2, q3, q4, q5, fun _ => ⟨hBl, fun k _ k2 => by omega, fun h => (by cases h)⟩, q7, q8.1, fun _ => ⟨g1, g2, fun _ h => (by cases h)⟩⟩,
          Below.putObj (Below.refl B w) hBl _⟩
        subst hsd
        simp [convert, run_underlying hd, run_underlying he, hms]
      · cases h
    · cases h
  · cases h

theorem run_rangeV (hH : HR P E B H w) {t : TypeId} {s : List UInt8} (hu : P.underlying t = some .string) : Made P E B w (.ptr (some (H.n, 0))) (H.alloc (.iter s 0)) (Instr.range t (.string ⟨s.toArray⟩)) := by
  have hle := hH.put_le ⟨w.heap.size, 0, 0, 0, 0⟩
  refine ⟨.pointer (some ⟨w.heap.size, 0, none⟩), w.alloc (.stringIter ⟨s.toArray⟩ 0), _, ?_, hle, ⟨_, put_get _ _, rfl⟩, hH.alloc rfl ⟨World.alloc_heap_new w _, hH.fresh, rfl⟩, (Below.refl B w).alloc hH.base _⟩
  simp [Instr.range, run_underlying hu]

theorem run_nextV (hH : HR P E B H w) {b pos : Nat} {s : List UInt8} {x : Value} {ty : TypeId} (hb : H.get b = some (.iter s pos)) (hx : VR E (.ptr (some (b, 0))) x) :
    if pos < s.length then Made P E B w (.tuple [.bool true, .int .i64 pos, .int .i32 (decodeL s pos).1]) (H.set b (.iter s (pos + (decodeL s pos).2))) (Instr.next x true ty)
    else Made P E B w (.tuple [.bool false]) H (Instr.next x true ty) := by
  obtain ⟨L, hL, rfl⟩ := hx
  obtain ⟨L', hL', h1, h2, h3⟩ := hH.obj _ _ hb
  rw [hL] at hL'; cases hL'
  have hsz : (⟨s.toArray⟩ : ByteArray).size = s.length := rfl
  have hlt := (Array.getElem?_eq_some_iff.1 h1).1
  split
  · rename_i hp
    refine ⟨_, w.putObj L.blk (.stringIter ⟨s.toArray⟩ (pos + (decodeL s pos).2)), E, ?_, Env.le.refl E, ⟨#[.bool true, goInt pos, .int .i32 (decodeL s pos).1], rfl, _, _, rfl, rfl, _, _, rfl, rfl, _, _, rfl, rfl, rfl⟩,
      hH.turn hb hL rfl ⟨World.putObj_heap_same hlt, h2, h3⟩, Below.putObj (Below.refl B w) h2 _⟩
    simp [Instr.next, h3, getObj, setObj, Sem.run, h1, hsz, hp, decode_eq, World.putObj, goInt]
  · rename_i hp
    refine Got.made hH ⟨.tuple #[.bool false], ?_, _, rfl, _, _, rfl, rfl, rfl⟩
    simp [Instr.next, h3, getObj, Sem.run, h1, hsz, hp]

theorem liesAt_bytes' {e : TypeId} (hc : P.cellsOf e = 1) (count off n : Nat) (hn : off + n ≤ count) : liesAt P P.depth e count off e n = true := by
  have hd : P.depth = (2 * (P.types.size + Made.depth) + 1) + 1 := rfl
  rw [hd]
  simp only [liesAt, Bool.or_eq_true]
  left
  rw [hd]
  simp [rowAt, hc, hn, sameLayout, Nat.mod_one]

theorem run_loadBytes' : ∀ (ns : List Int) (a : Addr) (acc : ByteArray), (∀ j x, ns[j]? = some x → w.cell? (a.add j) = some (.int .u8 x)) →
    (loadBytes a acc ns.length).run P w = .ok ⟨acc.data ++ (ns.map fun n => UInt8.ofNat n.toNat).toArray⟩ w
  | [], a, acc, _ => by simp [loadBytes]
  | x :: l, a, acc, h => by
    have h0 : w.cell? a = some (.int .u8 x) := by
      have := h 0 x rfl
      simpa [Addr.add] using this
    have ih := run_loadBytes' l (a.add 1) (acc.push x.toNat.toUInt8) (fun j y hy => by
      have := h (j + 1) y (by simpa using hy)
      have e : (a.add 1).add j = a.add (j + 1) := by
        unfold Addr.add
        by_cases hj : j = 0
        · subst hj; simp
        · simp [hj]; omega
      rw [e]; exact this)
    simp only [List.length_cons, loadBytes, Sem.run_bind, run_load, h0, Result.andThen]
    rw [ih]
    congr 1
    apply ByteArray.ext
    simp [ByteArray.push]

theorem unsafeString_none (ts : Array TypeId) (ty : TypeId) (k : IntKind) (pt : TypeId) (ht : ts[0]? = some pt) : (Builtin.unsafeString_ ts ty #[.pointer none, .int k 0]).run P w = .ok (.string .empty) w := by
  have hmax : IntKind.i64.max = 9223372036854775807 := rfl
  show (asInt (.int k 0) >>= _).run P w = _
  simp [asInt, asIntOf, hmax, ht]
theorem unsafeString_zero (ts : Array TypeId) (ty : TypeId) (k : IntKind) (a : Addr) (pt : TypeId) (ht : ts[0]? = some pt) : (Builtin.unsafeString_ ts ty #[.pointer (some a), .int k 0]).run P w = .ok (.string .empty) w := by
  have hmax : IntKind.i64.max = 9223372036854775807 := rfl
  show (asInt (.int k 0) >>= _).run P w = _
  simp [asInt, asIntOf, hmax, ht]
theorem unsafeString_some (ts : Array TypeId) (ty : TypeId) (k : IntKind) (n : Int) (a : Addr) (pt e : TypeId) (ht : ts[0]? = some pt) (h0 : ¬ n < 0) (h1 : ¬ n > 9223372036854775807) (h2 : n ≠ 0) {s : ByteArray}
    (he : (elemOf pt).run P w = .ok e w) (hv : (variablesAt a e n.toNat).run P w = .ok true w) (hl : (loadBytes a .empty n.toNat).run P w = .ok s w) :
    (Builtin.unsafeString_ ts ty #[.pointer (some a), .int k n]).run P w = .ok (.string s) (w.freeze a n.toNat) := by
  have hmax : IntKind.i64.max = 9223372036854775807 := rfl
  show (asInt (.int k n) >>= _).run P w = _
  simp only [Sem.run_bind, asInt, asIntOf, ht, Result.andThen_ok, Sem.run_pure, hmax]
  rw [if_neg h0, if_neg h1, if_neg h2]
  simp [he, hv, hl]

theorem run_unsafeStringV (hH : HR P E B H w) {pt ty : TypeId} {ts : Array TypeId} {p n v : AV} {x y : Value} {H' : AH} (ht : ts[0]? = some pt) (h : unsafeStringV P H pt p n = some (v, H')) (hx : VR E p x) (hy : VR E n y) :
    Made P E B w v H' (Builtin.unsafeString_ ts ty #[x, y]) := by
  have hmax : IntKind.i64.max = 9223372036854775807 := rfl
  unfold unsafeStringV at h
  split at h
  · cases h
    obtain rfl : x = _ := hx; obtain rfl : y = _ := hy
    exact Got.made hH ⟨.string .empty, unsafeString_none ts ty _ pt ht, rfl⟩
  · rename_i b o k n
    obtain ⟨L, hL, rfl⟩ := hx
    obtain rfl : y = _ := hy
    split at h
    · rename_i hn0
      cases h
      refine Got.made hH ⟨.string .empty, ?_, rfl⟩
      subst hn0
      exact unsafeString_zero ts ty k _ pt ht
    · rename_i hn0
      split at h
      · cases h
      · rename_i hnb
        cases hu : P.underlying pt with
        | none => simp [hu] at h
        | some d =>
        cases d <;> simp only [hu, reduceCtorEq] at h
        rename_i e
        split at h
        · rename_i e1 cs e' fl hu' hb
          cases hu'
          split at h
          · rename_i hc
            obtain ⟨rfl, h1, h3, h4, h5⟩ := hc
            obtain ⟨s, hs, h⟩ := Option.map_eq_some_iff.1 h
            cases h
            obtain ⟨L', hL', ho⟩ := hH.obj _ _ hb
            rw [hL] at hL'; cases hL'
            have hcell := cellsOf_eq h1
            obtain ⟨X, lo, hi, q1, q2, q3, q4, q5, q6, q7, q8⟩ := ho
            obtain ⟨hBl, hF, hS⟩ := q6 h3
            obtain ⟨ns, hns, rfl⟩ := bytesOfCells_sim ((q5.drop o).take n.toNat) hs
            have hnl : ns.length = n.toNat := by
              have := congrArg List.length hns
              simp at this; omega
            have hl : (loadBytes ⟨L.blk, L.off + o, none⟩ .empty n.toNat).run P w = .ok ⟨(ns.map fun n => UInt8.ofNat n.toNat).toArray⟩ w := by
              have := run_loadBytes' (P := P) (w := w) ns ⟨L.blk, L.off + o, none⟩ .empty (fun j x hj => by
                have hjn : j < n.toNat := by have := (List.getElem?_eq_some_iff.1 hj).1; omega
                have hj2 : (ns.map (Value.int .u8))[j]? = some (.int .u8 x) := by simp [hj]
                rw [← hns, List.getElem?_take_of_lt hjn, List.getElem?_drop, seg_get (by omega)] at hj2
                rw [addr_add]
                simp only [World.cell?, q1]
                simp
                rw [show L.off + o + j = L.off + (o + j) by omega]; exact hj2)
              rw [hnl] at this
              have e0 : ByteArray.empty.data = #[] := rfl
              rw [e0] at this
              simpa using this
            have hlt : L.blk < w.heap.size := (Array.getElem?_eq_some_iff.1 q1).1
            have hfr := freeze_put (w := w) q1 (off := L.off + o) (n := n.toNat) (by omega)
            obtain ⟨lo2, hi2, hfp, hfb⟩ : ∃ lo2 hi2, (if lo == hi then (L.off + o, L.off + o + n.toNat) else (min lo (L.off + o), max hi (L.off + o + n.toNat))) = (lo2, hi2) ∧ hi2 ≤ L.off + max fl.fz (o + n.toNat) := by
              by_cases e5 : lo = hi
              · exact ⟨_, _, by rw [if_pos (by simpa using e5)], by omega⟩
              · have hS' := hS h4
                exact ⟨_, _, by rw [if_neg (by simpa using e5)], by omega⟩
            rw [hfp] at hfr
            have hsh : w.shape? L.blk = some (e, X.size) := by simp only [World.shape?, q1]
            have hva : (variablesAt ⟨L.blk, L.off + o, none⟩ e n.toNat).run P w = .ok true w := by
              have := liesAt_bytes' (P := P) hcell (X.size / P.cellsOf e) (L.off + o) n.toNat (by rw [hcell, Nat.div_one]; omega)
              simp [variablesAt, hsh, this]
            refine ⟨.string ⟨(ns.map fun (n : Int) => UInt8.ofNat n.toNat).toArray⟩, w.putObj L.blk (.cells X e (lo2, hi2)),
              E, ?_, Env.le.refl E, rfl, ?_, ?_⟩
            · rw [hmax] at hnb
              rw [unsafeString_some ts ty k n _ pt e ht (by omega) (by omega) hn0 (by simp [elemOf, run_underlying hu]) hva hl, hfr]
            · refine hH.turn hb hL h3 ⟨X, _, _, World.putObj_heap_same hlt, q2, q3, q4, q5, fun _ => ⟨hBl, ?_, ?_⟩, q7, q8.1, fun hw => ⟨(q8.2 hw).1, (q8.2 hw).2.1, fun hf => by
                have : max fl.fz (o + n.toNat) = 0 := hf
                omega⟩⟩
              · intro k k1 k2
                have k3 : L.off + max fl.fz (o + n.toNat) ≤ k := k1
                omega
              · intro _
                exact .inr hfb
            · exact Below.putObj (Below.refl B w) hBl _
          · cases h
        · cases h
  · cases h

end
end Go.Am

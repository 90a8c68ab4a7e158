/- mark.Parse of any bytes: what is read is right, in normal form; else it is too long, or wants too many spans. -/
import Derived.Test.YtlkdhhkncoekgaaDoorFormsV

section
namespace Go.Proofs.YtlkdhhkncoekgaaDoor
open Go.Am Go

def Sound (d : Int) (S : List UInt8) (sp : List Spn) (nm : List UInt8) (sd : Int) : Prop := ∃ L : List Look, SignsN S L.length ∧ S.length ≤ 4096 ∧ (∀ a ∈ L, okC a.c) ∧ sp = layAll (spans L) ∧ sp.length ≤ 256 ∧ nm.length ≤ 64 ∧ (d ≠ 2 → nm = []) ∧ (sd = 0 ∨ (sd = 1 ∧ d = 4))
def Told (d : Int) (s : List UInt8) (e : Int) (S : List UInt8) (sp : List Spn) (nm : List UInt8) (sd : Int) : Prop :=
  (((e = 3 ∧ 4096 < s.length) ∨ (e = 2 ∧ 256 < s.length)) ∧ S = [] ∧ sp = [] ∧ nm = [] ∧ sd = 0) ∨ (e = 0 ∧ Sound d S sp nm sd)

theorem sorts_spans (L : List Look) (h : L.length ≤ 100000) : Sorts (spans L) (layAll (spans L)) := by
  refine sorts_all ?_ (spans_apart L)
  have := kindsTo_length L 5
  show (kindsTo L 5).1.length ≤ _
  omega

theorem Parse_total (d : Int) (hd : 1 ≤ d ∧ d ≤ 4) (s : List UInt8) (hs : s.length ≤ 4194304) (H : AH) :
    ACallee Tryd.prog 12 [.int .i64 d, .str s] H fun v H' => ∃ e S sp nm sd, Told d s e S sp nm sd ∧ MarkRes H S sp nm sd e v H' := by
  refine Parse_S (Fine d s) (Told d s) d s hd hs (fun x h => ?_) (fun e => ?_) (Fine.start d s) (fun x h hl hr => ?_) (fun x h hl hk => ?_) (fun x h hl => ?_) H
  · have h1 := h.le
    have h2 := h.room
    have h3 := h.pieces
    exact ⟨h.isD, h.isS, by omega, h2, by omega⟩
  · subst e; exact voice_fine hs
  · exact turn_fine h hl hr (fun hd' hc => angle_fine hd' h hl hr hc hs) (fun _ _ => entity_pure _) (fun hd' _ => pipe_fine hd' h hl hr hs) (fun hd' _ => brace_fine hd' h hl hr hs)
  · have h1 := h.few
    exact .inl ⟨.inl ⟨rfl, by omega⟩, rfl, rfl, rfl, rfl⟩
  · obtain ⟨e, S, sp, h1, h2⟩ := end_fine h sorts_spans
    refine ⟨e, S, sp, h1, ?_⟩
    rcases h2 with ⟨rfl, rfl, rfl, h3⟩ | ⟨rfl, rfl, rfl, h3⟩ | ⟨rfl, rfl, rfl, h3, h4⟩
    · exact .inl ⟨.inl ⟨rfl, h3⟩, rfl, rfl, rfl, rfl⟩
    · exact .inl ⟨.inr ⟨rfl, h3⟩, rfl, rfl, rfl, rfl⟩
    · refine .inr ⟨rfl, x.looks, ?_, h4, fun a ha => ?_, rfl, h3, h.name.1, h.name.2, h.side⟩
      · have := h.signs
        unfold St.looks; rw [List.length_map]; exact this
      · unfold St.looks at ha
        obtain ⟨p, hp, rfl⟩ := List.mem_map.1 ha
        exact h.c p hp
end Go.Proofs.YtlkdhhkncoekgaaDoor
end

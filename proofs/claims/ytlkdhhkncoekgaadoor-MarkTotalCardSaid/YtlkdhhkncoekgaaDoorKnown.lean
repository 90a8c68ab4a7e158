/- The laws' own known words: what known() hands back at any heap that holds the tables. -/
import Derived.Test.YtlkdhhkncoekgaaDoorKnownRun
namespace Go.Proofs.YtlkdhhkncoekgaaDoor
open Go.Am Go
theorem tabs_scal (e1 e2 : TypeId) : ∀ t ∈ startTabs e1 e2, t.1 < Tryd.prog.globals.size ∧ AV.scals t.2.2 = true := by
  intro t ht
  rw [nGlobals]
  simp only [startTabs, List.mem_cons, List.mem_nil_iff, or_false] at ht
  rcases ht with rfl | rfl
  · exact ⟨(show 1 < nGlob by decide), by kernel_rfl⟩
  · exact ⟨(show 2 < nGlob by decide), by kernel_rfl⟩

theorem startTabs_in (e1 e2 : TypeId) : TabsIn (startTabs e1 e2) (startH nGlob (startTabs e1 e2)) := by
  intro t ht
  simp only [startTabs, List.mem_cons, List.mem_nil_iff, or_false] at ht
  rcases ht with rfl | rfl <;> simp [startTabs, startH, AH.get_set]

theorem known_pure (e1 e2 : TypeId) : PureT Tryd.prog (startTabs e1 e2) 10 [] fun v => v = .bool true :=
  PureT.of_call (by kernel_rfl) (tabs_scal e1 e2) (by rw [nGlobals]; exact ACall.of_run follows ext_ok (by kernel_rfl) (known_run e1 e2)) rfl (fun v e => by rw [e]; rfl)
end Go.Proofs.YtlkdhhkncoekgaaDoor

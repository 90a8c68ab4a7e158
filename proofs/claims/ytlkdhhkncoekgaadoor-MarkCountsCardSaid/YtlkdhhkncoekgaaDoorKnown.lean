/- The laws' own known words: what known() hands back at any heap that holds the tables. -/
import Derived.Test.YtlkdhhkncoekgaaDoorKnownRun
namespace Go.Proofs.YtlkdhhkncoekgaaDoor
open Go.Am Go
theorem pO (e1 e2:TypeId) : ∀t ∈ bG e1 e2,t.1<Tryd.prog.globals.size∧AV.dc t.2.2=true:=by
 intro t ht
 rw [jD]
 simp only [bG,List.mem_cons,List.mem_nil_iff,or_false] at ht
 rcases ht with rfl | rfl
 ·exact ⟨(show 1<kG by decide),by kernel_rfl⟩
 ·exact ⟨(show 2<kG by decide),by kernel_rfl⟩
theorem wV (e1 e2:TypeId):gh (bG e1 e2) (fA kG (bG e1 e2)):=by
 intro t ht
 simp only [bG,List.mem_cons,List.mem_nil_iff,or_false] at ht
 rcases ht with rfl | rfl <;> simp [bG,fA,AH.af]
theorem Ci (e1 e2:TypeId):wN Tryd.prog (bG e1 e2) 10 [] fun v=>v=.bool true :=
 wN.oM (by kernel_rfl) (pO e1 e2) (by rw [jD];exact bH.of_run follows CJ (by kernel_rfl) (E9 e1 e2)) rfl (fun v e=>by rw [e];rfl)
end Go.Proofs.YtlkdhhkncoekgaaDoor

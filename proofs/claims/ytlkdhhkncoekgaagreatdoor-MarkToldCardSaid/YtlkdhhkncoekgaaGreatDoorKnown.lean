/- The laws' own known words: what known() hands back at any heap that holds the tables. -/
import Derived.Test.YtlkdhhkncoekgaaGreatDoorKnownRun
namespace Go.Proofs.YtlkdhhkncoekgaaGreatDoor
open Go.Am Go
theorem qf (e1 e2:TypeId) : ∀t ∈ bO e1 e2,t.1<Tryz.prog.globals.size∧AV.cZ t.2.2=true:=by
 intro t ht
 rw [j5]
 simp only [bO,List.mem_cons,List.mem_nil_iff,or_false] at ht
 rcases ht with rfl | rfl
 ·exact ⟨(show 1<lu by decide),by kernel_rfl⟩
 ·exact ⟨(show 2<lu by decide),by kernel_rfl⟩
theorem xO (e1 e2:TypeId):gm (bO e1 e2) (fH lu (bO e1 e2)):=by
 intro t ht
 simp only [bO,List.mem_cons,List.mem_nil_iff,or_false] at ht
 rcases ht with rfl | rfl <;> simp [bO,fH,AH.af]
theorem CV (e1 e2:TypeId):xE Tryz.prog (bO e1 e2) 8 [] fun v=>v=.bool true :=
 xE.pz (by kernel_rfl) (qf e1 e2) (by rw [j5];exact bL.of_run follows Di (by kernel_rfl) (FK e1 e2)) rfl (fun v e=>by rw [e];rfl)
end Go.Proofs.YtlkdhhkncoekgaaGreatDoor

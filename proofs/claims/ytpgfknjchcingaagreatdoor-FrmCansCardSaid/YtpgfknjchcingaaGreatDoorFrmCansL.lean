/- The law FrmCans at any heap that holds the tables. -/
import Derived.Test.YtpgfknjchcingaaGreatDoorFrmCansW
import Derived.Test.YtpgfknjchcingaaGreatDoorHead
namespace Go.Proofs.YtpgfknjchcingaaGreatDoor
open Go.Am Go

theorem tabs_lt {e1 e2 : TypeId} : ∀ t ∈ startTabs e1 e2, t.1 < nGlob := fun t ht => by
  have := (tabs_scal e1 e2 t ht).1
  rwa [nGlobals] at this

theorem law' (e1 e2 : TypeId) (a b : Int) (c : Bool) (H0 : AH) (hT : TabsIn (startTabs e1 e2) H0) (hn : H0.n = 5) :
    ACall Tryz.prog 3 [.agg [.int .i64 a, .int .i64 b, .bool c]] H0 fun v _ => v = .bool true := by
  refine vcF_ok follows' (anns := []) ?_
  rw [law_vc]
  simp [AH.read1, AH.read, AH.get_alloc, AH.get_set, AH.write, splice, AV.one, emptyH, and_assoc, hn, -Bool.exists_bool, -Bool.forall_bool]
  refine (Can_pure a b c).use1 ?_
  have hl : ∀ t ∈ startTabs e1 e2, t.1 < 5 := tabs_lt
  unfold canV
  by_cases h : rateOk a b c = true
  · simp [AH.read1, AH.read, AH.get_alloc, AH.get_set, AH.write, splice, AV.one, emptyH, and_assoc, h, hn, -Bool.exists_bool, -Bool.forall_bool]
    refine (refCan_pure a b c).use1 ?_
    unfold canV
    simp [AH.read1, AH.read, AH.get_alloc, AH.get_set, AH.write, splice, AV.one, emptyH, and_assoc, h, hn, -Bool.exists_bool, -Bool.forall_bool]
    refine (head_pure e1 e2).use ?_ (fun v hv => hv)
    repeat' first | exact hT | refine TabsIn.set ?_ ?_ _ | refine TabsIn.alloc ?_ ?_ _
    all_goals (intro t ht; have := hl t ht; simp [hn]; omega)
  · simp [AH.read1, AH.read, AH.get_alloc, AH.get_set, AH.write, splice, AV.one, emptyH, and_assoc, h, hn, -Bool.exists_bool, -Bool.forall_bool]
    refine (refCan_pure a b c).use1 ?_
    unfold canV
    simp [AH.read1, AH.read, AH.get_alloc, AH.get_set, AH.write, splice, AV.one, emptyH, and_assoc, h, hn, -Bool.exists_bool, -Bool.forall_bool]
    refine (head_pure e1 e2).use ?_ (fun v hv => hv)
    repeat' first | exact hT | refine TabsIn.set ?_ ?_ _ | refine TabsIn.alloc ?_ ?_ _
    all_goals (intro t ht; have := hl t ht; simp [hn]; omega)
end Go.Proofs.YtpgfknjchcingaaGreatDoor

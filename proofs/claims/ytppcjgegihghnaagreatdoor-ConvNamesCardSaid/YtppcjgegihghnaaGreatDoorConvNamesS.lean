/- The law ConvNames holds of its row. -/
import Derived.Test.YtppcjgegihghnaaGreatDoorConvNamesW
import Derived.Test.YtppcjgegihghnaaGreatDoorCards
import Derived.Test.YtppcjgegihghnaaGreatDoorTie
import Derived.SevenTiedAt
import Derived.Test.YtppcjgegihghnaaGreatDoorConvNamesFa
import Derived.Test.YtppcjgegihghnaaGreatDoorConvNamesFb
import Derived.Test.YtppcjgegihghnaaGreatDoorConvNamesFc
import Derived.Test.YtppcjgegihghnaaGreatDoorConvNamesFd
namespace Go.Proofs.YtppcjgegihghnaaGreatDoor.convNames
open Go.ChangeShapes Go.WideShapes Go.ChangeAt Go.RowKit Go.Am Go

theorem closed : joinedFacts Tryz.pinned.checked.prog 3 Tryz.f3 (OpenSpec.ofChange Rows.convNamesSpec).bare Rows.convNamesRow = true := by
  unfold joinedFacts
  rw [fact_inPlace, fact_unfollowed, fact_recurses, fact_named]
  kernel_rfl

theorem said : Rows.ConvNamesSaid :=
  OpenClaim.holds_of_cond 3 Tryz.f3 rfl rfl rfl rfl rfl rfl rfl ⟨rfl, rfl, rfl, rfl, rfl⟩ rfl rfl rfl rfl rfl (by kernel_rfl) Tryz.func3 closed
    (of_decide_eq_true (by kernel_rfl)) (by unfold Func.isWrapper; first | (rw [if_pos (by decide +kernel)]; kernel_rfl) | (rw [if_neg (by decide +kernel)]; exact ⟨rfl, rfl⟩))
    (fun os started H enc _ F => by rw [OpenClaim.pre_eq_preRow]; exact lifted os started H enc F)

end Go.Proofs.YtppcjgegihghnaaGreatDoor.convNames

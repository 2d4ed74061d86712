/-
  The calls of the example's run that are told by hand.
-/
import Derived.Test.YtiekfipjbmdkpaaGreatDoorHf
import Derived.Test.YtiekfipjbmdkpaaGreatDoorHg
namespace Go.Proofs.YtiekfipjbmdkpaaGreatDoor
open Go.RowKit
namespace Sx
open Go.Sx
set_option maxRecDepth 100000
theorem c13_true : c13.True Tryz.prog := dec_true c13 rfl rfl rfl rfl rfl (n := b17) rfl (by kernel_rfl) (by kernel_rfl) (by kernel_rfl) (by kernel_rfl)
theorem c14_true : c14.True Tryz.prog := kind_true c14 rfl rfl rfl rfl rfl rfl rfl (by kernel_rfl)
theorem c15_true : c15.True Tryz.prog := cF_true
theorem c17_true : c17.True Tryz.prog := check_cut c17 rfl rfl rfl rfl rfl (by kernel_rfl)
theorem c23_true : c23.True Tryz.prog := cont_cut c23 rfl rfl rfl rfl rfl (by kernel_rfl)
theorem c24_true : c24.True Tryz.prog := cont_cut c24 rfl rfl rfl rfl rfl (by kernel_rfl)
end Sx
end Go.Proofs.YtiekfipjbmdkpaaGreatDoor

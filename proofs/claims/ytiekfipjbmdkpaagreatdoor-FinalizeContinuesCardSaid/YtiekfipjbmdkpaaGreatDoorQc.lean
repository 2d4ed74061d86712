/-
  The example's run, parted: each call, run by the kernel (part 2).
-/
import Derived.Test.YtiekfipjbmdkpaaGreatDoorQa
import Derived.KernelRfl
namespace Go.Proofs.YtiekfipjbmdkpaaGreatDoor
open Go.Sx
set_option maxRecDepth 100000
namespace Sx
theorem c5_of (ht : ∀ e ∈ tellT, _root_.Go.Sx.Told Tryz.prog e.1 e.2.1 e.2.2) (hl : ∀ c ∈ [c1, c2, c3, c4], Cut.True Tryz.prog c) : c5.True Tryz.prog := Cut.true_of (n := 100000) (given_cuts ht hl) c5 (by kernel_rfl)
theorem c6_of (ht : ∀ e ∈ tellT, _root_.Go.Sx.Told Tryz.prog e.1 e.2.1 e.2.2) (hl : ∀ c ∈ [c0, c5], Cut.True Tryz.prog c) : c6.True Tryz.prog := Cut.true_of (n := 100000) (given_cuts ht hl) c6 (by kernel_rfl)
theorem c18_of (ht : ∀ e ∈ tellT, _root_.Go.Sx.Told Tryz.prog e.1 e.2.1 e.2.2) (hl : ∀ c ∈ [], Cut.True Tryz.prog c) : c18.True Tryz.prog := Cut.true_of (n := 100000) (given_cuts ht hl) c18 (by kernel_rfl)
theorem c22_of (ht : ∀ e ∈ tellT, _root_.Go.Sx.Told Tryz.prog e.1 e.2.1 e.2.2) (hl : ∀ c ∈ [], Cut.True Tryz.prog c) : c22.True Tryz.prog := Cut.true_of (n := 100000) (given_cuts ht hl) c22 (by kernel_rfl)
theorem c25_of (ht : ∀ e ∈ tellT, _root_.Go.Sx.Told Tryz.prog e.1 e.2.1 e.2.2) (hl : ∀ c ∈ [c6, c8, c9, c10, c11, c16, c17, c20, c21, c22, c23, c24], Cut.True Tryz.prog c) : c25.True Tryz.prog := Cut.true_of (n := 100000) (given_cuts ht hl) c25 (by kernel_rfl)
theorem t13_true : _root_.Go.Sx.Told Tryz.prog t13.1 t13.2.1 t13.2.2 := told_of given0 (n := 100000) t13 (by kernel_rfl)
theorem t3_true : _root_.Go.Sx.Told Tryz.prog t3.1 t3.2.1 t3.2.2 := told_of given0 (n := 100000) t3 (by kernel_rfl)
theorem t14_true : _root_.Go.Sx.Told Tryz.prog t14.1 t14.2.1 t14.2.2 := told_of given0 (n := 100000) t14 (by kernel_rfl)
theorem t20_true : _root_.Go.Sx.Told Tryz.prog t20.1 t20.2.1 t20.2.2 := told_of given0 (n := 100000) t20 (by kernel_rfl)
theorem t22_true : _root_.Go.Sx.Told Tryz.prog t22.1 t22.2.1 t22.2.2 := told_of given0 (n := 100000) t22 (by kernel_rfl)
theorem t30_true : _root_.Go.Sx.Told Tryz.prog t30.1 t30.2.1 t30.2.2 := told_of given0 (n := 100000) t30 (by kernel_rfl)
theorem t34_true : _root_.Go.Sx.Told Tryz.prog t34.1 t34.2.1 t34.2.2 := told_of given0 (n := 100000) t34 (by kernel_rfl)
theorem t26_true : _root_.Go.Sx.Told Tryz.prog t26.1 t26.2.1 t26.2.2 := told_of given0 (n := 100000) t26 (by kernel_rfl)
theorem t10_true : _root_.Go.Sx.Told Tryz.prog t10.1 t10.2.1 t10.2.2 := told_of given0 (n := 100000) t10 (by kernel_rfl)
theorem t35_true : _root_.Go.Sx.Told Tryz.prog t35.1 t35.2.1 t35.2.2 := told_of given0 (n := 100000) t35 (by kernel_rfl)
theorem t16_true : _root_.Go.Sx.Told Tryz.prog t16.1 t16.2.1 t16.2.2 := told_of given0 (n := 100000) t16 (by kernel_rfl)
theorem t38_true : _root_.Go.Sx.Told Tryz.prog t38.1 t38.2.1 t38.2.2 := told_of given0 (n := 100000) t38 (by kernel_rfl)
theorem t45_true : _root_.Go.Sx.Told Tryz.prog t45.1 t45.2.1 t45.2.2 := told_of given0 (n := 100000) t45 (by kernel_rfl)
end Sx
end Go.Proofs.YtiekfipjbmdkpaaGreatDoor

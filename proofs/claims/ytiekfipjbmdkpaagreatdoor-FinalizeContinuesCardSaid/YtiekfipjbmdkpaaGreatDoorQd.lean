/-
  The example's run, parted: each call, run by the kernel (part 3).
-/
import Derived.Test.YtiekfipjbmdkpaaGreatDoorQa
import Derived.KernelRfl
namespace Go.Proofs.YtiekfipjbmdkpaaGreatDoor
open Go.Sx
set_option maxRecDepth 100000
namespace Sx
theorem c1_of (ht : ∀ e ∈ tellT, _root_.Go.Sx.Told Tryz.prog e.1 e.2.1 e.2.2) (hl : ∀ c ∈ [], Cut.True Tryz.prog c) : c1.True Tryz.prog := Cut.true_of (n := 100000) (given_cuts ht hl) c1 (by kernel_rfl)
theorem c8_of (ht : ∀ e ∈ tellT, _root_.Go.Sx.Told Tryz.prog e.1 e.2.1 e.2.2) (hl : ∀ c ∈ [c7], Cut.True Tryz.prog c) : c8.True Tryz.prog := Cut.true_of (n := 100000) (given_cuts ht hl) c8 (by kernel_rfl)
theorem c16_of (ht : ∀ e ∈ tellT, _root_.Go.Sx.Told Tryz.prog e.1 e.2.1 e.2.2) (hl : ∀ c ∈ [c12, c13, c14, c15], Cut.True Tryz.prog c) : c16.True Tryz.prog := Cut.true_of (n := 100000) (given_cuts ht hl) c16 (by kernel_rfl)
theorem c10_of (ht : ∀ e ∈ tellT, _root_.Go.Sx.Told Tryz.prog e.1 e.2.1 e.2.2) (hl : ∀ c ∈ [], Cut.True Tryz.prog c) : c10.True Tryz.prog := Cut.true_of (n := 100000) (given_cuts ht hl) c10 (by kernel_rfl)
theorem c7_of (ht : ∀ e ∈ tellT, _root_.Go.Sx.Told Tryz.prog e.1 e.2.1 e.2.2) (hl : ∀ c ∈ [], Cut.True Tryz.prog c) : c7.True Tryz.prog := Cut.true_of (n := 100000) (given_cuts ht hl) c7 (by kernel_rfl)
theorem t5_true : _root_.Go.Sx.Told Tryz.prog t5.1 t5.2.1 t5.2.2 := told_of given0 (n := 100000) t5 (by kernel_rfl)
theorem t7_true : _root_.Go.Sx.Told Tryz.prog t7.1 t7.2.1 t7.2.2 := told_of given0 (n := 100000) t7 (by kernel_rfl)
theorem t21_true : _root_.Go.Sx.Told Tryz.prog t21.1 t21.2.1 t21.2.2 := told_of given0 (n := 100000) t21 (by kernel_rfl)
theorem t27_true : _root_.Go.Sx.Told Tryz.prog t27.1 t27.2.1 t27.2.2 := told_of given0 (n := 100000) t27 (by kernel_rfl)
theorem t29_true : _root_.Go.Sx.Told Tryz.prog t29.1 t29.2.1 t29.2.2 := told_of given0 (n := 100000) t29 (by kernel_rfl)
theorem t33_true : _root_.Go.Sx.Told Tryz.prog t33.1 t33.2.1 t33.2.2 := told_of given0 (n := 100000) t33 (by kernel_rfl)
theorem t43_true : _root_.Go.Sx.Told Tryz.prog t43.1 t43.2.1 t43.2.2 := told_of given0 (n := 100000) t43 (by kernel_rfl)
theorem t17_true : _root_.Go.Sx.Told Tryz.prog t17.1 t17.2.1 t17.2.2 := told_of given0 (n := 100000) t17 (by kernel_rfl)
theorem t24_true : _root_.Go.Sx.Told Tryz.prog t24.1 t24.2.1 t24.2.2 := told_of given0 (n := 100000) t24 (by kernel_rfl)
theorem t36_true : _root_.Go.Sx.Told Tryz.prog t36.1 t36.2.1 t36.2.2 := told_of given0 (n := 100000) t36 (by kernel_rfl)
theorem t18_true : _root_.Go.Sx.Told Tryz.prog t18.1 t18.2.1 t18.2.2 := told_of given0 (n := 100000) t18 (by kernel_rfl)
end Sx
end Go.Proofs.YtiekfipjbmdkpaaGreatDoor

/-
  The example's run, parted: each call, run by the kernel (part 1).
-/
import Derived.Test.YtiekfipjbmdkpaaGreatDoorQa
import Derived.KernelRfl
namespace Go.Proofs.YtiekfipjbmdkpaaGreatDoor
open Go.Sx
set_option maxRecDepth 100000
namespace Sx
theorem c3_of (ht : ∀ e ∈ tellT, _root_.Go.Sx.Told Tryz.prog e.1 e.2.1 e.2.2) (hl : ∀ c ∈ [], Cut.True Tryz.prog c) : c3.True Tryz.prog := Cut.true_of (n := 100000) (given_cuts ht hl) c3 (by kernel_rfl)
theorem c21_of (ht : ∀ e ∈ tellT, _root_.Go.Sx.Told Tryz.prog e.1 e.2.1 e.2.2) (hl : ∀ c ∈ [], Cut.True Tryz.prog c) : c21.True Tryz.prog := Cut.true_of (n := 100000) (given_cuts ht hl) c21 (by kernel_rfl)
theorem c4_of (ht : ∀ e ∈ tellT, _root_.Go.Sx.Told Tryz.prog e.1 e.2.1 e.2.2) (hl : ∀ c ∈ [], Cut.True Tryz.prog c) : c4.True Tryz.prog := Cut.true_of (n := 100000) (given_cuts ht hl) c4 (by kernel_rfl)
theorem c9_of (ht : ∀ e ∈ tellT, _root_.Go.Sx.Told Tryz.prog e.1 e.2.1 e.2.2) (hl : ∀ c ∈ [], Cut.True Tryz.prog c) : c9.True Tryz.prog := Cut.true_of (n := 100000) (given_cuts ht hl) c9 (by kernel_rfl)
theorem c0_of (ht : ∀ e ∈ tellT, _root_.Go.Sx.Told Tryz.prog e.1 e.2.1 e.2.2) (hl : ∀ c ∈ [], Cut.True Tryz.prog c) : c0.True Tryz.prog := Cut.true_of (n := 100000) (given_cuts ht hl) c0 (by kernel_rfl)
theorem t4_true : _root_.Go.Sx.Told Tryz.prog t4.1 t4.2.1 t4.2.2 := told_of given0 (n := 100000) t4 (by kernel_rfl)
theorem t15_true : _root_.Go.Sx.Told Tryz.prog t15.1 t15.2.1 t15.2.2 := told_of given0 (n := 100000) t15 (by kernel_rfl)
theorem t2_true : _root_.Go.Sx.Told Tryz.prog t2.1 t2.2.1 t2.2.2 := told_of given0 (n := 100000) t2 (by kernel_rfl)
theorem t28_true : _root_.Go.Sx.Told Tryz.prog t28.1 t28.2.1 t28.2.2 := told_of given0 (n := 100000) t28 (by kernel_rfl)
theorem t32_true : _root_.Go.Sx.Told Tryz.prog t32.1 t32.2.1 t32.2.2 := told_of given0 (n := 100000) t32 (by kernel_rfl)
theorem t37_true : _root_.Go.Sx.Told Tryz.prog t37.1 t37.2.1 t37.2.2 := told_of given0 (n := 100000) t37 (by kernel_rfl)
theorem t40_true : _root_.Go.Sx.Told Tryz.prog t40.1 t40.2.1 t40.2.2 := told_of given0 (n := 100000) t40 (by kernel_rfl)
theorem t19_true : _root_.Go.Sx.Told Tryz.prog t19.1 t19.2.1 t19.2.2 := told_of given0 (n := 100000) t19 (by kernel_rfl)
theorem t42_true : _root_.Go.Sx.Told Tryz.prog t42.1 t42.2.1 t42.2.2 := told_of given0 (n := 100000) t42 (by kernel_rfl)
theorem t0_true : _root_.Go.Sx.Told Tryz.prog t0.1 t0.2.1 t0.2.2 := told_of given0 (n := 100000) t0 (by kernel_rfl)
theorem t44_true : _root_.Go.Sx.Told Tryz.prog t44.1 t44.2.1 t44.2.2 := told_of given0 (n := 100000) t44 (by kernel_rfl)
end Sx
end Go.Proofs.YtiekfipjbmdkpaaGreatDoor

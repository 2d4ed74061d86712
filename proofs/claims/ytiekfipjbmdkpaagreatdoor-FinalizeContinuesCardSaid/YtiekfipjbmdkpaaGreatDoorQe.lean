/-
  The example's run, parted: each call, run by the kernel (part 4).
-/
import Derived.Test.YtiekfipjbmdkpaaGreatDoorQa
import Derived.KernelRfl
namespace Go.Proofs.YtiekfipjbmdkpaaGreatDoor
open Go.Sx
set_option maxRecDepth 100000
namespace Sx
theorem c2_of (ht : ∀ e ∈ tellT, _root_.Go.Sx.Told Tryz.prog e.1 e.2.1 e.2.2) (hl : ∀ c ∈ [], Cut.True Tryz.prog c) : c2.True Tryz.prog := Cut.true_of (n := 100000) (given_cuts ht hl) c2 (by kernel_rfl)
theorem c20_of (ht : ∀ e ∈ tellT, _root_.Go.Sx.Told Tryz.prog e.1 e.2.1 e.2.2) (hl : ∀ c ∈ [c19], Cut.True Tryz.prog c) : c20.True Tryz.prog := Cut.true_of (n := 100000) (given_cuts ht hl) c20 (by kernel_rfl)
theorem c12_of (ht : ∀ e ∈ tellT, _root_.Go.Sx.Told Tryz.prog e.1 e.2.1 e.2.2) (hl : ∀ c ∈ [], Cut.True Tryz.prog c) : c12.True Tryz.prog := Cut.true_of (n := 100000) (given_cuts ht hl) c12 (by kernel_rfl)
theorem c11_of (ht : ∀ e ∈ tellT, _root_.Go.Sx.Told Tryz.prog e.1 e.2.1 e.2.2) (hl : ∀ c ∈ [], Cut.True Tryz.prog c) : c11.True Tryz.prog := Cut.true_of (n := 100000) (given_cuts ht hl) c11 (by kernel_rfl)
theorem c19_of (ht : ∀ e ∈ tellT, _root_.Go.Sx.Told Tryz.prog e.1 e.2.1 e.2.2) (hl : ∀ c ∈ [c18], Cut.True Tryz.prog c) : c19.True Tryz.prog := Cut.true_of (n := 100000) (given_cuts ht hl) c19 (by kernel_rfl)
theorem t8_true : _root_.Go.Sx.Told Tryz.prog t8.1 t8.2.1 t8.2.2 := told_of given0 (n := 100000) t8 (by kernel_rfl)
theorem t1_true : _root_.Go.Sx.Told Tryz.prog t1.1 t1.2.1 t1.2.2 := told_of given0 (n := 100000) t1 (by kernel_rfl)
theorem t11_true : _root_.Go.Sx.Told Tryz.prog t11.1 t11.2.1 t11.2.2 := told_of given0 (n := 100000) t11 (by kernel_rfl)
theorem t6_true : _root_.Go.Sx.Told Tryz.prog t6.1 t6.2.1 t6.2.2 := told_of given0 (n := 100000) t6 (by kernel_rfl)
theorem t12_true : _root_.Go.Sx.Told Tryz.prog t12.1 t12.2.1 t12.2.2 := told_of given0 (n := 100000) t12 (by kernel_rfl)
theorem t31_true : _root_.Go.Sx.Told Tryz.prog t31.1 t31.2.1 t31.2.2 := told_of given0 (n := 100000) t31 (by kernel_rfl)
theorem t25_true : _root_.Go.Sx.Told Tryz.prog t25.1 t25.2.1 t25.2.2 := told_of given0 (n := 100000) t25 (by kernel_rfl)
theorem t39_true : _root_.Go.Sx.Told Tryz.prog t39.1 t39.2.1 t39.2.2 := told_of given0 (n := 100000) t39 (by kernel_rfl)
theorem t9_true : _root_.Go.Sx.Told Tryz.prog t9.1 t9.2.1 t9.2.2 := told_of given0 (n := 100000) t9 (by kernel_rfl)
theorem t41_true : _root_.Go.Sx.Told Tryz.prog t41.1 t41.2.1 t41.2.2 := told_of given0 (n := 100000) t41 (by kernel_rfl)
theorem t23_true : _root_.Go.Sx.Told Tryz.prog t23.1 t23.2.1 t23.2.2 := told_of given0 (n := 100000) t23 (by kernel_rfl)
theorem t46_true : _root_.Go.Sx.Told Tryz.prog t46.1 t46.2.1 t46.2.2 := told_of given0 (n := 100000) t46 (by kernel_rfl)
end Sx
end Go.Proofs.YtiekfipjbmdkpaaGreatDoor

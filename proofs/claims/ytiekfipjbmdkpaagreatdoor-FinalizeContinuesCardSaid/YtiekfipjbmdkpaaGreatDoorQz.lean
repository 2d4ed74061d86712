/-
  The example's run, put together.
-/
import Derived.Test.YtiekfipjbmdkpaaGreatDoorQb
import Derived.Test.YtiekfipjbmdkpaaGreatDoorQc
import Derived.Test.YtiekfipjbmdkpaaGreatDoorQd
import Derived.Test.YtiekfipjbmdkpaaGreatDoorQe
import Derived.Test.YtiekfipjbmdkpaaGreatDoorHd
namespace Go.Proofs.YtiekfipjbmdkpaaGreatDoor
open Go.Sx
set_option maxRecDepth 100000
namespace Sx
theorem tells : ∀ e ∈ tellT, _root_.Go.Sx.Told Tryz.prog e.1 e.2.1 e.2.2 := tells_cons t0_true (tells_cons t1_true (tells_cons t2_true (tells_cons t3_true (tells_cons t4_true (tells_cons t5_true (tells_cons t6_true (tells_cons t7_true (tells_cons t8_true (tells_cons t9_true (tells_cons t10_true (tells_cons t11_true (tells_cons t12_true (tells_cons t13_true (tells_cons t14_true (tells_cons t15_true (tells_cons t16_true (tells_cons t17_true (tells_cons t18_true (tells_cons t19_true (tells_cons t20_true (tells_cons t21_true (tells_cons t22_true (tells_cons t23_true (tells_cons t24_true (tells_cons t25_true (tells_cons t26_true (tells_cons t27_true (tells_cons t28_true (tells_cons t29_true (tells_cons t30_true (tells_cons t31_true (tells_cons t32_true (tells_cons t33_true (tells_cons t34_true (tells_cons t35_true (tells_cons t36_true (tells_cons t37_true (tells_cons t38_true (tells_cons t39_true (tells_cons t40_true (tells_cons t41_true (tells_cons t42_true (tells_cons t43_true (tells_cons t44_true (tells_cons t45_true (tells_cons t46_true (tells_nil)))))))))))))))))))))))))))))))))))))))))))))))
theorem c0_true : c0.True Tryz.prog := c0_of tells (alls_nil)
theorem c1_true : c1.True Tryz.prog := c1_of tells (alls_nil)
theorem c2_true : c2.True Tryz.prog := c2_of tells (alls_nil)
theorem c3_true : c3.True Tryz.prog := c3_of tells (alls_nil)
theorem c4_true : c4.True Tryz.prog := c4_of tells (alls_nil)
theorem c5_true : c5.True Tryz.prog := c5_of tells (alls_cons c1_true (alls_cons c2_true (alls_cons c3_true (alls_cons c4_true (alls_nil)))))
theorem c6_true : c6.True Tryz.prog := c6_of tells (alls_cons c0_true (alls_cons c5_true (alls_nil)))
theorem c7_true : c7.True Tryz.prog := c7_of tells (alls_nil)
theorem c8_true : c8.True Tryz.prog := c8_of tells (alls_cons c7_true (alls_nil))
theorem c9_true : c9.True Tryz.prog := c9_of tells (alls_nil)
theorem c10_true : c10.True Tryz.prog := c10_of tells (alls_nil)
theorem c11_true : c11.True Tryz.prog := c11_of tells (alls_nil)
theorem c12_true : c12.True Tryz.prog := c12_of tells (alls_nil)
theorem c16_true : c16.True Tryz.prog := c16_of tells (alls_cons c12_true (alls_cons c13_true (alls_cons c14_true (alls_cons c15_true (alls_nil)))))
theorem c18_true : c18.True Tryz.prog := c18_of tells (alls_nil)
theorem c19_true : c19.True Tryz.prog := c19_of tells (alls_cons c18_true (alls_nil))
theorem c20_true : c20.True Tryz.prog := c20_of tells (alls_cons c19_true (alls_nil))
theorem c21_true : c21.True Tryz.prog := c21_of tells (alls_nil)
theorem c22_true : c22.True Tryz.prog := c22_of tells (alls_nil)
theorem c25_true : c25.True Tryz.prog := c25_of tells (alls_cons c6_true (alls_cons c8_true (alls_cons c9_true (alls_cons c10_true (alls_cons c11_true (alls_cons c16_true (alls_cons c17_true (alls_cons c20_true (alls_cons c21_true (alls_cons c22_true (alls_cons c23_true (alls_cons c24_true (alls_nil)))))))))))))
end Sx
end Go.Proofs.YtiekfipjbmdkpaaGreatDoor

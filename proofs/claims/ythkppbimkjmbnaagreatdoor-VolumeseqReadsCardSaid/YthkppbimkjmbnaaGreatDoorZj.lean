/-
  The walks through the reference's tags: sum, summed, Make, ranged, Block.
-/
import Derived.Test.YthkppbimkjmbnaaGreatDoorZi
import Derived.Test.YthkppbimkjmbnaaGreatDoorZG
namespace Go.Proofs.YthkppbimkjmbnaaGreatDoor
open Go.RowKit
open Vs (bs by_)
set_option maxHeartbeats 1600000 in
set_option maxRecDepth 100000 in
/-- masterdiscref31.sum. -/
theorem r31Sum_any (s : ByteArray) (h : 16 ≤ s.size) (hs : s.size ≤ 9223372036854775807) (w : World) : Calls Tryz.prog 142 #[.string s] w fun e w' => e = .returned (.int .u8 (Vs.sumT (by_ s) : Nat)) ∧ ∃ n, w' = w.drewN n := by
  have e1 : s.extract 0 4 ++ s.extract 5 16 = bs (Vs.sl (by_ s) 0 4 ++ Vs.sl (by_ s) 5 11) := by
    rw [Vs.bs_ext s 0 4, Vs.bs_ext s 5 16, Vs.bs_app]
  have CS := Lib.hid (fun W => rSum8_any (s.extract 0 4 ++ s.extract 5 16) W (by rw [e1, Vs.bs_size, List.length_append, Vs.sl_len (by rw [Vs.by_len]; omega), Vs.sl_len (by rw [Vs.by_len]; omega)]; decide))
  have HS := Lib.hid (show Vs.sumR (s.extract 0 4 ++ s.extract 5 16).data.toList = Vs.sumT (by_ s) by rw [e1]; rfl)
  rw [HS.out] at CS
  clear e1 HS
  generalize Vs.sumT (by_ s) = T at *
  go_enter Tryz.func142, Tryz.ntmps142
  go_wp2_with fail
  go_quiet ((go_at_call 207; exact Calls.quiet_of_same ((CS.out _).mono fun _ _ h => ⟨h.1, h.2.symm⟩)))
  go_wp2_with fail
  go_ret
  exact ⟨rfl, _, rfl⟩
namespace Vs
end Vs
end Go.Proofs.YthkppbimkjmbnaaGreatDoor

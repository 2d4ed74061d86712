/-
  The reference's ParseEntity, whatever the field.
-/
import Derived.Test.YtfdlnhflgiemiaaDoorN4Z
import Derived.Test.YtfdlnhflgiemiaaDoorN4F
import Derived.Test.YtfdlnhflgiemiaaDoorN4T
namespace Go.Proofs.YtfdlnhflgiemiaaDoor
open Go.RowKit

set_option maxHeartbeats 1600000 in
set_option maxRecDepth 100000 in
/-- masterdiscref32.ParseEntity. -/
theorem rPent_any (f : ByteArray) (w : World) (_hs : f.size ≤ 9223372036854775807) :
    Calls Tryd.prog 27 #[.string f] w fun e w' => e = .returned (.tuple #[.string ⟨(Cs.pentR f.data.toList).1.1.toArray⟩, .string ⟨(Cs.pentR f.data.toList).1.2.toArray⟩, .int .i64 (Cs.pentR f.data.toList).2]) ∧ Below w.heap.size w w' := by
  have hdl := Kit.len_size f
  by_cases h32 : f.size = 32
  case neg =>
    have HR := Lib.hid (show Cs.pentR f.data.toList = (([], []), 1) from if_pos (by rw [hdl]; exact h32))
    have h32' : ((f.size : Int) != 32) = true := by rw [bne_iff_ne]; omega
    clear hdl h32
    go_enter Tryd.func27, Tryd.ntmps27
    go_wp2_with fail
    go_returns
    rw [HR.out]
    exact ⟨rfl, Below.refl _ _⟩
  case pos =>
  by_cases g0 : (Cs.entS f.data.toList).length = 0
  · exact rPent_Z f w h32 g0
  · cases ga : Cs.allP (Cs.entS f.data.toList) with
    | false => exact rPent_A f w h32 (by omega) ga
    | true =>
      cases gq : decide ((f.extract (1 + (Cs.entS f.data.toList).length) 24).data.toList = List.replicate (23 - (Cs.entS f.data.toList).length) 0) with
      | false => exact rPent_F f w h32 (by omega) ga gq
      | true => exact rPent_T f w h32 (by omega) ga gq
end Go.Proofs.YtfdlnhflgiemiaaDoor

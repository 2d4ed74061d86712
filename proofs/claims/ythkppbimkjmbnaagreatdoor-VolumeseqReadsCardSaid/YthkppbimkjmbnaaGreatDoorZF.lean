/-
  The walks through udftag: summed, seal, Block.
-/
import Derived.Test.YthkppbimkjmbnaaGreatDoorZE
namespace Go.Proofs.YthkppbimkjmbnaaGreatDoor
open Go.RowKit
open Vs (bs by_)

set_option maxHeartbeats 6400000 in
set_option maxRecDepth 100000 in
/-- udftag.summed. -/
theorem summed_any (s : ByteArray) (h : 16 ≤ s.size) (hs : s.size ≤ 9223372036854775807) (w : World) : Calls Tryz.prog 176 #[.string s] w fun e w' => e = .returned (.string (bs (Vs.sl (by_ s) 0 4 ++ (UInt8.ofNat (Vs.sumT (by_ s)) :: (by_ s).drop 5)))) ∧ Below w.heap.size w w' := by
  have CS := Lib.hid (fun W => sum_any s h hs W)
  have hT := Vs.sumR_lt (Vs.sl (by_ s) 0 4 ++ Vs.sl (by_ s) 5 11)
  change Vs.sumT (by_ s) < 256 at hT
  generalize hTT : Vs.sumT (by_ s) = T at *
  have HR := Lib.hid (show s.extract 0 4 ++ ⟨#[UInt8.ofNat T]⟩ ++ s.extract 5 s.size = bs (Vs.sl (by_ s) 0 4 ++ (UInt8.ofNat T :: (by_ s).drop 5)) by
    rw [Vs.bs_ext s 0 4, Vs.bs_ext s 5 s.size, show (⟨#[UInt8.ofNat T]⟩ : ByteArray) = bs [UInt8.ofNat T] from rfl, Vs.bs_app, Vs.bs_app, List.append_assoc]
    congr 2
    show [UInt8.ofNat T] ++ Vs.sl (by_ s) 5 (s.size - 5) = _
    unfold Vs.sl
    rw [List.take_of_length_le (by rw [List.length_drop, Vs.by_len]; omega)]
    rfl)
  have HB := Lib.hid (fun n : Nat => (Kit.Below.drewN (Below.refl w.heap.size w) n).alloc (by simp) (.cells #[.int .u8 (T : Int)] 5))
  have hcv : ∀ n : Nat, (convert 126 9 (.slice (some ⟨w.heap.size, 0, none⟩) 1 1)).run Tryz.prog ((w.drewN n).alloc (.cells #[.int .u8 (T : Int)] 5)) = .ok (.string ⟨#[UInt8.ofNat T]⟩) ((w.drewN n).alloc (.cells #[.int .u8 (T : Int)] 5)) := fun n => run_convert_bytes_back (P := Tryz.prog) ((w.drewN n).alloc (.cells #[.int .u8 (T : Int)] 5)) 126 9 5 ⟨w.heap.size, 0, none⟩ 1 [UInt8.ofNat T] Tryz.underlying126 Tryz.underlying5 Tryz.underlying9 (fun i hi => by
    have hi0 : i = 0 := by simp at hi; exact hi
    subst hi0
    rw [Addr.add_lit, Nat.zero_add]
    have hz := heap_alloc_new (w.drewN n) (.cells #[.int .u8 (T : Int)] 5)
    rw [show (w.drewN n).heap.size = w.heap.size by simp] at hz
    rw [cell_of_row _ _ 0 _ _ _ hz]
    simp
    omega)
  go_enter Tryz.func176, Tryz.ntmps176
  go_wp2_with fail
  go_region_with (go_at_call 152; refine (CS.out _).mono ?_; rintro e w2 ⟨rfl, nq, rfl⟩)
  all_goals
    clear hcv
    go_wp2_with fail
    go_ret
    rw [HR.out]
    first
      | exact ⟨rfl, HB.out _⟩
      | exact ⟨rfl, Kit.Below.drewN (HB.out _) _⟩
      | exact ⟨rfl, (HB.out _).drew⟩
end Go.Proofs.YthkppbimkjmbnaaGreatDoor

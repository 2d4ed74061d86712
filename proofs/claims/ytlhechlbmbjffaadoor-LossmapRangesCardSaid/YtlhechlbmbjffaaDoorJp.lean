/-
  The reference's Readable.
-/
import Derived.Test.YtlhechlbmbjffaaDoorJc
namespace Go.Proofs.YtlhechlbmbjffaaDoor
open Go.RowKit

set_option maxHeartbeats 1600000 in
set_option maxRecDepth 100000 in
/-- masterdiscref56.Readable, at a block that is not negative. -/
theorem rReadable_any (v : Value) (img : List ByteArray) (bn : Nat) (w : World) (hm : Lm.Strs w v img) :
    Calls Tryd.prog 32 #[v, .int .i64 bn] w fun e w' => e = .returned (.bool (Lm.readable img bn)) ∧ w' = w := by
  have HM := Lib.hid hm
  obtain ⟨A, c, rfl, hlc, hcm, _⟩ := hm
  rw [Lm.strs_length] at *
  unfold maxLen at hcm
  have hb0 : decide ((0 : Int) ≤ (bn : Int)) = true := decide_eq_true (by omega)
  by_cases hlt : bn < img.length
  · obtain ⟨b, o, c', hv, hbl, hcell⟩ := HM.out.cell hlt
    obtain ⟨rfl, _, rfl⟩ : A = some ⟨b, o, none⟩ ∧ img.length = img.length ∧ c = c' := by simpa using hv
    clear hv
    have hr : Lm.readable img bn = decide ((img.getD bn ⟨#[]⟩).size = 2048) := by
      unfold Lm.readable
      rw [Int.toNat_natCast, decide_eq_true (show (bn : Int) < (img.length : Int) by omega), Bool.true_and]
    have d1 : decide ((bn : Int) < (img.length : Int)) = true := decide_eq_true (by omega)
    rw [hr]
    clear hr
    generalize img.getD bn ⟨#[]⟩ = s at *
    by_cases h : s.size = 2048
    · rw [decide_eq_true h]
      go_enter Tryd.func32, Tryd.ntmps32
      go_wp2_with fail
      go_ret
      exact ⟨rfl, rfl⟩
    · rw [decide_eq_false h]
      have e3 : ((s.size : Int) == 2048) = false := by rw [beq_eq_false_iff_ne]; omega
      clear h
      go_enter Tryd.func32, Tryd.ntmps32
      go_wp2_with fail
      go_ret
      exact ⟨rfl, rfl⟩
  · have hr : Lm.readable img bn = false := by
      unfold Lm.readable
      rw [decide_eq_false (show ¬ (bn : Int) < (img.length : Int) by omega), Bool.false_and]
    have d1 : decide ((bn : Int) < (img.length : Int)) = false := decide_eq_false (by omega)
    rw [hr]
    go_enter Tryd.func32, Tryd.ntmps32
    go_wp2_with fail
    go_ret
    exact ⟨rfl, rfl⟩
end Go.Proofs.YtlhechlbmbjffaaDoor

/-
  The reference's block of zeros.
-/
import Derived.Test.YtlhechlbmbjffaaDoorJc
namespace Go.Proofs.YtlhechlbmbjffaaDoor
open Go.RowKit
namespace Lm
def zs (n : Nat) : ByteArray := ⟨(List.replicate n (0 : UInt8)).toArray⟩
theorem zs_size (n : Nat) : (zs n).size = n := by simp [zs, ByteArray.size]
theorem zs_add (m n : Nat) : zs m ++ zs n = zs (m + n) := by
  unfold zs
  apply ByteArray.ext
  rw [ByteArray.data_append, List.append_toArray, List.replicate_append_replicate]
end Lm

set_option maxHeartbeats 1600000 in
set_option maxRecDepth 100000 in
/-- masterdiscref46.Zero. -/
theorem rZero_any (w : World) : Calls Tryd.prog 53 #[] w fun e w' => e = .returned (.string (Lm.zs 2048)) ∧ w' = w := by
  go_enter Tryd.func53, Tryd.ntmps53
  go_wp2_with fail
  go_loop [1] (fun v => ∃ k : Nat, k ≤ 8 ∧ v = .string (Lm.zs (8 * 2 ^ k))) (fun v => 4096 - Kit.strLen v)
  case atStart => exact ⟨0, by omega, rfl⟩
  case round =>
    obtain ⟨k, hk, rfl⟩ := hrel
    by_cases hlt : k < 8
    · have hp : 2 ^ k ≤ 2 ^ 7 := Nat.pow_le_pow_right (by omega) (by omega)
      have hp0 : 0 < 2 ^ k := Nat.pow_pos (by omega)
      have hs := Lm.zs_size (8 * 2 ^ k)
      have hn : 8 * 2 ^ (k + 1) = 8 * 2 ^ k + 8 * 2 ^ k := by rw [Nat.pow_succ]; omega
      have HA := Lib.hid (show Lm.zs (8 * 2 ^ k) ++ Lm.zs (8 * 2 ^ k) = Lm.zs (8 * 2 ^ (k + 1)) by rw [Lm.zs_add, ← hn])
      have hs2 := Lm.zs_size (8 * 2 ^ (k + 1))
      have HS := Lib.hid hs2
      have HN := Lib.hid hn
      have HP := Lib.hid hp0
      clear hs2 hn
      generalize Lm.zs (8 * 2 ^ k) = s at *
      have hl : (s.size : Int) < 2048 := by omega
      have hd : decide ((s.size : Int) < 2048) = true := decide_eq_true hl
      have HZ := Lib.hid hs
      clear hs hp hp0
      go_wp2_with fail
      go_round
      case rel => exact ⟨k + 1, by omega, congrArg Value.string ((Kit.append_mk _ _).trans HA.out)⟩
      case measure => 
        have h0 := HZ.out
        have h1 := HS.out
        have h2 := HN.out
        have h3 := HP.out
        have h4 := congrArg ByteArray.size HA.out
        simp [Kit.strLen] at *
        omega
    · obtain rfl : k = 8 := by omega
      have hs : (Lm.zs (8 * 2 ^ 8)).size = 2048 := Lm.zs_size _
      have hl : ¬ ((Lm.zs (8 * 2 ^ 8)).size : Int) < 2048 := by omega
      go_wp2_with fail
      go_ret
      exact ⟨rfl, rfl⟩
end Go.Proofs.YtlhechlbmbjffaaDoor

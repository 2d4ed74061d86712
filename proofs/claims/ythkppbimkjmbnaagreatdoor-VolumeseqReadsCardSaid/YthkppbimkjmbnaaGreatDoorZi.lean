/-
  The walks through the reference's checksums: Sum8, CRC16.
-/
import Derived.Test.YthkppbimkjmbnaaGreatDoorZD
import Derived.Test.YthkppbimkjmbnaaGreatDoorZB
import Derived.Test.YthkppbimkjmbnaaGreatDoorZc
namespace Go.Proofs.YthkppbimkjmbnaaGreatDoor
set_option linter.unusedVariables false
open Go.RowKit
namespace Vs
theorem crcBit_form {n : Nat} (h : n < 65536) : crcBit n = (n * 2 % 65536) ^^^ (n / 32768 * 4129) := by
  unfold crcBit
  split
  · rename_i e
    rw [e]
  · have : n / 32768 = 0 := by omega
    rw [this]
    simp
theorem bit_dist : ∀ a b : Fin 2, ((a.val ^^^ b.val) * 4129) = (a.val * 4129) ^^^ (b.val * 4129) := by decide
theorem xor_lt {x y : Nat} (hx : x < 65536) (hy : y < 65536) : x ^^^ y < 65536 := Nat.xor_lt_two_pow (n := 16) hx hy
theorem xor_4 (a b c d : Nat) : (a ^^^ b) ^^^ (c ^^^ d) = (a ^^^ c) ^^^ (b ^^^ d) := by
  rw [Nat.xor_assoc, Nat.xor_assoc, ← Nat.xor_assoc b c d, Nat.xor_comm b c, Nat.xor_assoc c b d]
theorem crcBit_xor {x y : Nat} (hx : x < 65536) (hy : y < 65536) : crcBit (x ^^^ y) = crcBit x ^^^ crcBit y := by
  rw [crcBit_form hx, crcBit_form hy, crcBit_form (xor_lt hx hy), xor_4]
  have e1 : (x ^^^ y) * 2 % 65536 = (x * 2 % 65536) ^^^ (y * 2 % 65536) := by
    have h1 : (x ^^^ y) * 2 = x * 2 ^^^ y * 2 := by
      have := Nat.shiftLeft_xor_distrib (a := x) (b := y) (i := 1)
      simpa [Nat.shiftLeft_eq] using this
    rw [h1]
    exact Nat.xor_mod_two_pow (n := 16)
  have e2 : (x ^^^ y) / 32768 = (x / 32768) ^^^ (y / 32768) := by
    have := Nat.shiftRight_xor_distrib (a := x) (b := y) (i := 15)
    simpa [Nat.shiftRight_eq_div_pow] using this
  rw [e1, e2]
  have := bit_dist ⟨x / 32768, by omega⟩ ⟨y / 32768, by omega⟩
  simp only [] at this
  rw [this]
theorem crcBits_xor (k : Nat) {x y : Nat} (hx : x < 65536) (hy : y < 65536) : crcBits k (x ^^^ y) = crcBits k x ^^^ crcBits k y := by
  induction k with
  | zero => rfl
  | succ k ih => rw [crcBits_snoc, crcBits_snoc, crcBits_snoc, ih, crcBit_xor (crcBits_lt hx k) (crcBits_lt hy k)]
theorem crc_low : ∀ i : Fin 256, crcBits 8 i.val = i.val * 256 := by decide +kernel
theorem xor_256 {c b : Nat} (hc : c < 65536) : c ^^^ (b * 256) = (c / 256 ^^^ b) * 256 ^^^ (c % 256) := by
  have h1 : (c / 256 ^^^ b) * 256 = c / 256 * 256 ^^^ b * 256 := by
    have := Nat.shiftLeft_xor_distrib (a := c / 256) (b := b) (i := 8)
    simpa [Nat.shiftLeft_eq] using this
  have h2 : c = c / 256 * 256 ^^^ c % 256 := by
    apply Nat.eq_of_testBit_eq
    intro i
    rw [Nat.testBit_xor, show (256 : Nat) = 2 ^ 8 from rfl, Nat.testBit_mul_two_pow, Nat.testBit_mod_two_pow, Nat.testBit_div_two_pow]
    by_cases hi : i < 8
    · rw [decide_eq_false (show ¬ 8 ≤ i by omega), decide_eq_true hi]
      simp
    · rw [decide_eq_true (show 8 ≤ i by omega), decide_eq_false hi, show i - 8 + 8 = i by omega]
      simp
  rw [h1, Nat.xor_assoc, Nat.xor_comm (b * 256), ← Nat.xor_assoc, ← h2]
/-- Eight steps bit by bit are one by the table. -/
theorem crc_eight {c b : Nat} (hc : c < 65536) (hb : b < 256) : crcBits 8 (c ^^^ (b * 256)) = crcStep c b := by
  have hx : c / 256 ^^^ b < 256 := Nat.xor_lt_two_pow (n := 8) (by omega) hb
  rw [xor_256 hc, crcBits_xor 8 (by omega) (by omega)]
  have := crc_low ⟨c % 256, by omega⟩
  simp only [] at this
  rw [this, Nat.xor_comm]
  unfold crcStep crcTab
  rw [show c * 256 % 65536 = c % 256 * 256 by omega]
end Vs

set_option maxHeartbeats 3200000 in
set_option maxRecDepth 100000 in
/-- masterdiscref02.Sum8. -/
theorem rSum8_any (s : ByteArray) (w : World) (hs : s.size ≤ 9223372036854775807) :
    Calls Tryz.prog 207 #[.string s] w fun e w' => e = .returned (.int .u8 (Vs.sumR s.data.toList : Nat)) ∧ w = w' := by
  have hdl := Kit.len_size s
  go_enter Tryz.func207, Tryz.ntmps207
  go_wp2_with fail
  go_loop [3, 4] (fun sv iv => ∃ i : Nat, i ≤ s.size ∧ iv = .int .i64 i ∧ sv = .int .i64 (Vs.sumR (s.data.toList.take i) : Nat)) (fun _ iv => s.size - (intOf iv).toNat)
  case atStart => exact ⟨0, Nat.zero_le _, rfl, rfl⟩
  case round =>
    obtain ⟨i, hi, rfl, rfl⟩ := hrel
    by_cases hlt : i < s.size
    · have hT := Vs.sumR_lt (s.data.toList.take i)
      have HN := Lib.hid (show Vs.sumR (s.data.toList.take (i + 1)) = (Vs.sumR (s.data.toList.take i) + (s[i]'hlt).toNat) % 256 by
        rw [List.take_succ_eq_append_getElem (by rw [hdl]; exact hlt), Vs.sumR_snoc]
        rfl)
      have hb256 : ((s[i]'hlt).toNat : Int) < 256 := by have := (s[i]'hlt).toNat_lt; omega
      generalize Vs.sumR (s.data.toList.take i) = T at *
      have hTz : (T : Int) < 256 := by omega
      go_wp2_with fail
      go_round
      case rel => exact ⟨i + 1, by omega, by go_num, by
        rw [HN.out]
        exact congrArg (Value.int .i64) (by omega)⟩
      case measure => simp [intOf]; omega
    · obtain rfl : i = s.size := by omega
      have HT := Lib.hid (show s.data.toList.take s.size = s.data.toList from List.take_of_length_le (by omega))
      have hT := Vs.sumR_lt s.data.toList
      have hTz : ((Vs.sumR s.data.toList : Nat) : Int) < 256 := by omega
      rw [HT.out]
      go_wp2_with fail
      go_ret
      exact ⟨rfl, rfl⟩

set_option maxHeartbeats 3200000 in
set_option maxRecDepth 100000 in
/-- masterdiscref02.ExtendCRC16. -/
theorem rExtend_any (s : ByteArray) (w : World) (hs : s.size ≤ 9223372036854775807) : Calls Tryz.prog 208 #[.int .u16 0, .string s] w fun e w' => e = .returned (.int .u16 (Vs.crcR s.data.toList : Nat)) ∧ w = w' := by
  have hdl := Kit.len_size s
  go_enter Tryz.func208, Tryz.ntmps208
  go_wp2_with fail
  go_loop [0, 5] (fun cv iv => ∃ i : Nat, i ≤ s.size ∧ iv = .int .i64 i ∧ cv = .int .u16 (Vs.crcR (s.data.toList.take i) : Nat)) (fun _ iv => s.size - (intOf iv).toNat)
  case atStart => exact ⟨0, Nat.zero_le _, rfl, rfl⟩
  case round =>
    obtain ⟨i, hi, rfl, rfl⟩ := hrel
    by_cases hlt : i < s.size
    · have hT := Vs.crcR_lt (s.data.toList.take i)
      have hb256 := (s[i]'hlt).toNat_lt
      have HN := Lib.hid (show Vs.crcR (s.data.toList.take (i + 1)) = Vs.crcBits 8 (Vs.crcR (s.data.toList.take i) ^^^ ((s[i]'hlt).toNat * 256)) by
        rw [List.take_succ_eq_append_getElem (by rw [hdl]; exact hlt), Vs.crcR_snoc, Vs.crc_eight hT hb256]
        rfl)
      generalize Vs.crcR (s.data.toList.take i) = T at *
      have hX := Vs.xor_lt hT (show (s[i]'hlt).toNat * 256 < 65536 by omega)
      have HX := Lib.hid (show bits .xor .u16 (T : Int) (((s[i]'hlt).toNat : Int) * 256) = ((T ^^^ ((s[i]'hlt).toNat * 256) : Nat) : Int) from by
        have := u16_xor_nat T ((s[i]'hlt).toNat * 256) hT (by omega)
        rw [show (((s[i]'hlt).toNat * 256 : Nat) : Int) = ((s[i]'hlt).toNat : Int) * 256 by omega] at this
        exact this)
      generalize T ^^^ ((s[i]'hlt).toNat * 256) = X at *
      have hTz : (T : Int) < 65536 := by omega
      go_wp2_with fail
      clear hTz
      go_loop [0, 6, 7] (fun cv kv _ => ∃ k : Nat, k ≤ 8 ∧ kv = .int .i64 k ∧ cv = .int .u16 (Vs.crcBits k X : Nat)) (fun _ kv _ => 8 - (intOf kv).toNat)
      case atStart => exact ⟨0, Nat.zero_le _, rfl, congrArg (Value.int .u16) HX.out⟩
      case round =>
        obtain ⟨k, hk, rfl, rfl⟩ := hrel
        by_cases hlt2 : k < 8
        · have hR := Vs.crcBits_lt hX k
          have HN2 := Lib.hid (Vs.crcBits_snoc k X)
          generalize Vs.crcBits k X = R at *
          clear hT hb256
          by_cases h1 : R / 32768 = 1
          · have HN1 := Lib.hid (HN2.out.trans (if_pos h1))
            clear HN2
            go_wp2_with fail
            go_round
            case rel => exact ⟨k + 1, by omega, by go_num, by
              rw [HN1.out, show ((R : Int) % 32768 * 2) = ((R * 2 % 65536 : Nat) : Int) by omega]
              exact congrArg (Value.int .u16) (u16_xor_nat (R * 2 % 65536) 4129 (by omega) (by decide))⟩
            case measure => simp [intOf]; omega
          · have HN1 := Lib.hid (HN2.out.trans (if_neg h1))
            have h0 : R / 32768 = 0 := by omega
            clear HN2
            go_wp2_with fail
            go_round
            case rel => exact ⟨k + 1, by omega, by go_num, by
              rw [HN1.out]
              exact congrArg (Value.int .u16) (by omega)⟩
            case measure => simp [intOf]; omega
        · obtain rfl : k = 8 := by omega
          rw [← HN.out]
          go_wp2_with fail
          go_round
          case rel => exact ⟨i + 1, by omega, by go_num, rfl⟩
          case measure => simp [intOf]; omega
    · obtain rfl : i = s.size := by omega
      have HT := Lib.hid (show s.data.toList.take s.size = s.data.toList from List.take_of_length_le (by omega))
      rw [HT.out]
      go_wp2_with fail
      go_ret
      exact ⟨rfl, rfl⟩

set_option maxHeartbeats 1600000 in
/-- masterdiscref02.CRC16. -/
theorem rCrc16_any (s : ByteArray) (w : World) (hs : s.size ≤ 9223372036854775807) : Calls Tryz.prog 143 #[.string s] w fun e w' => e = .returned (.int .u16 (Vs.crcR s.data.toList : Nat)) ∧ w = w' := by
  have CE := Lib.hid (fun W => rExtend_any s W hs)
  generalize Vs.crcR s.data.toList = r at *
  go_enter Tryz.func143, Tryz.ntmps143
  go_wp2_with fail
  with_reducible refine (CE.out _).mono ?_
  rintro e w2 ⟨rfl, rfl⟩
  go_wp2_with fail
  go_ret
  exact ⟨rfl, rfl⟩
end Go.Proofs.YthkppbimkjmbnaaGreatDoor

/-
  The walks through the reference's Bytes, Number, Pad, Ints, word.
-/
namespace Go.Proofs.YthkppbimkjmbnaaGreatDoor
open Go.RowKit
namespace Pm
theorem at_cons (s : List UInt8) (a m : Nat) (h : a < s.length) : at_ s a (m + 1) = Cs.byt s a + 256 * at_ s (a + 1) m := by
  unfold at_
  rw [List.drop_eq_getElem_cons h, List.take_succ_cons, num]
  congr 1
  unfold Cs.byt
  simp [List.getD, h]
end Pm

set_option maxHeartbeats 1600000 in
set_option maxRecDepth 100000 in
/-- masterdiscref31.Number. -/
theorem rNumber_any (s : ByteArray) (a k : Nat) (hk : k ≤ 6) (hak : a + k ≤ s.size) (hs : s.size ≤ 9223372036854775807) (w : World) :
    Calls Tryz.prog 87 #[.string s, .int .i64 (a : Int), .int .i64 (k : Int)] w fun e w' => e = .returned (.int .i64 (Pm.at_ s.data.toList a k : Nat)) ∧ w = w' := by
  have hpow : ∀ m, m ≤ 6 → 256 ^ m ≤ 281474976710656 := fun m hm => Nat.le_trans (Nat.pow_le_pow_right (by decide) hm) (by decide)
  have HP := Lib.hid hpow
  clear hpow
  go_enter Tryz.func87, Tryz.ntmps87
  go_wp2_with fail
  go_loop [7, 8] (fun nv iv => ∃ j : Nat, j ≤ k ∧ iv = .int .i64 ((j : Int) - 1) ∧ nv = .int .i64 (Pm.at_ s.data.toList (a + j) (k - j) : Nat)) (fun _ iv => (intOf iv + 1).toNat)
  case atStart => exact ⟨k, by omega, rfl, by simp [Pm.at_, Pm.num]⟩
  case round =>
    obtain ⟨j, hj, rfl, rfl⟩ := hrel
    by_cases hlt : 0 < j
    · obtain ⟨i, rfl⟩ : ∃ i, j = i + 1 := ⟨j - 1, by omega⟩
      have hb := Kit.byt_get s (a + i) (by omega)
      have hbl := Cs.byt_lt s.data.toList (a + i)
      have hc := Pm.at_cons s.data.toList (a + i) (k - (i + 1)) (by rw [Kit.len_size]; omega)
      rw [show k - (i + 1) + 1 = k - i by omega, show a + i + 1 = a + (i + 1) by omega] at hc
      have hlt' := Pm.at_lt s.data.toList (a + (i + 1)) (k - (i + 1))
      have hp := HP.out (k - (i + 1)) (by omega)
      have HC := Lib.hid hc
      clear hc
      generalize Pm.at_ s.data.toList (a + (i + 1)) (k - (i + 1)) = q at *
      have hq : q < 281474976710656 := Nat.lt_of_lt_of_le hlt' hp
      clear hlt' hp
      generalize Cs.byt s.data.toList (a + i) = x at *
      have hi : a + i < s.size := by omega
      have e1 : ((i + 1 : Nat) : Int) - 1 = (i : Int) := by omega
      rw [e1]
      clear e1
      go_wp2_with fail
      go_round
      case rel => exact ⟨i, by omega, by first | rfl | go_num, by rw [HC.out]; congr 1; omega⟩
      case measure => simp [intOf]
    · obtain rfl : j = 0 := by omega
      simp only [Nat.add_zero, Nat.sub_zero]
      go_wp2_with fail
      go_ret
      exact ⟨rfl, rfl⟩

end Go.Proofs.YthkppbimkjmbnaaGreatDoor

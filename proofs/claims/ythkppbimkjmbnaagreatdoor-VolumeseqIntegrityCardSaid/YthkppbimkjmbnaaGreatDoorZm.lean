/-
  The walk through the reference's ReadStamp.
-/
import Derived.Test.YthkppbimkjmbnaaGreatDoorZl
import Derived.Deep.RegionHeld3
import Derived.Test.YthkppbimkjmbnaaGreatDoorZO
namespace Go.Proofs.YthkppbimkjmbnaaGreatDoor
set_option linter.unusedVariables false
open Go.RowKit
open Vs (bs by_)

namespace Vs
/-- The zone as the reference reckons it. -/
def zone1 (r : Nat) : Int := if 2048 ≤ r then (r : Int) - 4096 else r
def zone2 (q r : Nat) : Int := if q = 0 ∨ zone1 r = -2047 then 0 else zone1 r
/-- What is right in a stamp. -/
def stampOk (s : List UInt8) (q : Nat) (Z : Int) : Prop := q ≤ 1 ∧ -1440 ≤ Z ∧ Z ≤ 1440 ∧ okC (clockOf s) = true ∧ Cs.byt s 9 ≤ 99 ∧ Cs.byt s 10 ≤ 99 ∧ Cs.byt s 11 ≤ 99
theorem zone_ref {s : List UInt8} {q r : Nat} (hk : kindOf s = ((4096 * q + r : Nat) : Int)) (hr : r < 4096) (hq : q ≤ 1) : zoneOf s = zone2 q r := by
  have k1 : kindOf s / 4096 = q := by omega
  have k2 : kindOf s % 4096 = r := by omega
  unfold zoneOf zone2 zone1
  rw [k1, k2]
  by_cases h0 : q = 0
  · rw [if_pos (.inl (by omega)), if_pos (.inl h0)]
  · have h1 : q = 1 := by omega
    by_cases h2 : r = 2049
    · rw [if_pos (.inr ⟨by omega, by omega⟩), if_pos (.inr (by rw [if_pos (by omega)]; omega))]
    · rw [if_neg (by omega)]
      by_cases h3 : 2048 ≤ r
      · rw [if_pos (by omega), if_pos h3, if_neg (by omega)]
      · rw [if_neg (by omega), if_neg h3, if_neg (by omega)]
theorem right_ref {s : List UInt8} {q r : Nat} (hk : kindOf s = ((4096 * q + r : Nat) : Int)) (hr : r < 4096) : (rightOf s && okC (clockOf s)) = true ↔ stampOk s q (zone2 q r) := by
  have k1 : kindOf s / 4096 = q := by omega
  unfold rightOf stampOk
  simp only [Bool.and_eq_true, decide_eq_true_eq]
  constructor
  · rintro ⟨⟨h1, h2, h3, h4, h5, h6⟩, h7⟩
    rw [zone_ref hk hr (by omega)] at h2 h3
    exact ⟨by omega, h2, h3, h7, h4, h5, h6⟩
  · rintro ⟨h1, h2, h3, h7, h4, h5, h6⟩
    rw [zone_ref hk hr h1]
    exact ⟨⟨by omega, h2, h3, h4, h5, h6⟩, h7⟩
theorem readS_ok {s : List UInt8} {q r : Nat} (hl : s.length = 12) (hk : kindOf s = ((4096 * q + r : Nat) : Int)) (hr : r < 4096) (h : stampOk s q (zone2 q r)) : readSR s = finR (clockOf s) (zone2 q r) := by
  unfold readSR finR
  rw [if_neg (by omega), if_pos ((right_ref hk hr).2 h), zone_ref hk hr h.1]
theorem readS_no {s : List UInt8} {q r : Nat} (hl : s.length = 12) (hk : kindOf s = ((4096 * q + r : Nat) : Int)) (hr : r < 4096) (h : ¬ stampOk s q (zone2 q r)) : readSR s = ((0, 0), 10) := by
  unfold readSR
  rw [if_neg (by omega), if_neg (fun g => h ((right_ref hk hr).1 g))]
end Vs

set_option maxHeartbeats 12800000 in
set_option maxRecDepth 100000 in
/-- masterdiscref16.ReadStamp. -/
theorem r16ReadStamp_any (s : ByteArray) (w : World) (hs : s.size ≤ 9223372036854775807) : Calls Tryz.prog 145 #[.string s] w fun e w' => e = .returned (.tuple #[.int .i64 (Vs.readSR (by_ s)).1.1, .int .i64 (Vs.readSR (by_ s)).1.2, .int .i64 (Vs.readSR (by_ s)).2]) ∧ Below w.heap.size w w' := by
  by_cases hl : s.size = 12
  case neg =>
    have HR := Lib.hid (show Vs.readSR (by_ s) = ((0, 0), 1) from if_pos (by rw [Vs.by_len]; exact hl))
    rw [HR.out]
    have hne : ((s.size : Int) != 12) = true := by rw [bne_iff_ne]; omega
    clear hl HR
    go_enter Tryz.func145, Tryz.ntmps145
    go_wp2_with fail
    go_ret3
    exact ⟨rfl, Below.refl _ _⟩
  have hz : ((s.size : Int) != 12) = false := by rw [hl]; rfl
  have hs12 : (s.size : Int) = 12 := by omega
  have g0 := Kit.byt_get s 0 (by omega)
  have g1 := Kit.byt_get s 1 (by omega)
  have g2 := Kit.byt_get s 2 (by omega)
  have g3 := Kit.byt_get s 3 (by omega)
  have g4 := Kit.byt_get s 4 (by omega)
  have g5 := Kit.byt_get s 5 (by omega)
  have g6 := Kit.byt_get s 6 (by omega)
  have g7 := Kit.byt_get s 7 (by omega)
  have g8 := Kit.byt_get s 8 (by omega)
  have g9 := Kit.byt_get s 9 (by omega)
  have g10 := Kit.byt_get s 10 (by omega)
  have g11 := Kit.byt_get s 11 (by omega)
  have l0 := Cs.byt_lt s.data.toList 0
  have l1 := Cs.byt_lt s.data.toList 1
  have l2 := Cs.byt_lt s.data.toList 2
  have l3 := Cs.byt_lt s.data.toList 3
  have HC := Lib.hid (show Vs.cC (Vs.clockOf (by_ s)) = #[.int .i64 ((Cs.byt (by_ s) 2 + 256 * Cs.byt (by_ s) 3 : Nat) : Int), .int .i64 ((Cs.byt (by_ s) 4 : Nat) : Int), .int .i64 ((Cs.byt (by_ s) 5 : Nat) : Int), .int .i64 ((Cs.byt (by_ s) 6 : Nat) : Int), .int .i64 ((Cs.byt (by_ s) 7 : Nat) : Int), .int .i64 ((Cs.byt (by_ s) 8 : Nat) : Int)] from rfl)
  obtain ⟨K, hKe⟩ : ∃ K : Nat, Cs.byt (by_ s) 0 + 256 * Cs.byt (by_ s) 1 = K := ⟨_, rfl⟩
  have hK1 : K < 65536 := by
    have e0 : Cs.byt (by_ s) 0 < 256 := l0
    have e1 : Cs.byt (by_ s) 1 < 256 := l1
    omega
  have HK := Lib.hid (show Vs.kindOf (by_ s) = (K : Int) from congrArg Nat.cast hKe)
  obtain ⟨q, r, hqr, hr4⟩ : ∃ q r : Nat, K = 4096 * q + r ∧ r < 4096 := ⟨K / 4096, K % 4096, by omega, by omega⟩
  have HOK := Lib.hid (fun h => Vs.readS_ok (s := by_ s) (q := q) (r := r) (by rw [Vs.by_len]; exact hl) (by rw [HK.out, hqr]) hr4 h)
  have HNO := Lib.hid (fun h => Vs.readS_no (s := by_ s) (q := q) (r := r) (by rw [Vs.by_len]; exact hl) (by rw [HK.out, hqr]) hr4 h)
  have HZ1 := Lib.hid (show Vs.zone1 r = if 2048 ≤ r then (r : Int) - 4096 else r from rfl)
  have HZ2 := Lib.hid (show Vs.zone2 q r = if q = 0 ∨ Vs.zone1 r = -2047 then 0 else Vs.zone1 r from rfl)
  have HSO := Lib.hid (fun Z => show Vs.stampOk (by_ s) q Z = (q ≤ 1 ∧ -1440 ≤ Z ∧ Z ≤ 1440 ∧ Vs.okC (Vs.clockOf (by_ s)) = true ∧ Cs.byt (by_ s) 9 ≤ 99 ∧ Cs.byt (by_ s) 10 ≤ 99 ∧ Cs.byt (by_ s) 11 ≤ 99) from rfl)
  generalize Vs.readSR (by_ s) = RR at *
  have CV := Lib.hid (fun W => r16Valid_any (Vs.clockOf (by_ s)) W (Int.natCast_nonneg _) (by
    show ((Cs.byt (by_ s) 2 + 256 * Cs.byt (by_ s) 3 : Nat) : Int) ≤ 100000
    have e0 : Cs.byt (by_ s) 2 < 256 := l2
    have e1 : Cs.byt (by_ s) 3 < 256 := l3
    omega))
  have CF := Lib.hid (fun Z W => r16Finish_any (Vs.clockOf (by_ s)) Z W)
  have CZ := Lib.hid (fun Z W => r16Zone_any Z W)
  rw [HC.out] at CV CF
  generalize hck : Vs.clockOf (by_ s) = ck at *
  generalize Vs.okC ck = ok at *
  unfold by_ at *
  have e23 : ((Cs.byt s.data.toList 2 : Nat) : Int) + 256 * ((Cs.byt s.data.toList 3 : Nat) : Int) = ((Cs.byt s.data.toList 2 + 256 * Cs.byt s.data.toList 3 : Nat) : Int) := by omega
  have e01 : ((Cs.byt s.data.toList 0 : Nat) : Int) + 256 * ((Cs.byt s.data.toList 1 : Nat) : Int) = (K : Int) := by omega
  generalize Cs.byt s.data.toList 2 + 256 * Cs.byt s.data.toList 3 = y23 at *
  have m0 : ((Cs.byt s.data.toList 0 : Nat) : Int) < 256 := by omega
  have m1 : ((Cs.byt s.data.toList 1 : Nat) : Int) < 256 := by omega
  have m2 : ((Cs.byt s.data.toList 2 : Nat) : Int) < 256 := by omega
  have m3 : ((Cs.byt s.data.toList 3 : Nat) : Int) < 256 := by omega
  generalize Cs.byt s.data.toList 0 = b0 at *
  generalize Cs.byt s.data.toList 1 = b1 at *
  generalize Cs.byt s.data.toList 2 = b2 at *
  generalize Cs.byt s.data.toList 3 = b3 at *
  have m4 : ((Cs.byt s.data.toList 4 : Nat) : Int) < 256 := by have := Cs.byt_lt s.data.toList 4; omega
  have m5 : ((Cs.byt s.data.toList 5 : Nat) : Int) < 256 := by have := Cs.byt_lt s.data.toList 5; omega
  have m6 : ((Cs.byt s.data.toList 6 : Nat) : Int) < 256 := by have := Cs.byt_lt s.data.toList 6; omega
  have m7 : ((Cs.byt s.data.toList 7 : Nat) : Int) < 256 := by have := Cs.byt_lt s.data.toList 7; omega
  have m8 : ((Cs.byt s.data.toList 8 : Nat) : Int) < 256 := by have := Cs.byt_lt s.data.toList 8; omega
  generalize Cs.byt s.data.toList 4 = b4 at *
  generalize Cs.byt s.data.toList 5 = b5 at *
  generalize Cs.byt s.data.toList 6 = b6 at *
  generalize Cs.byt s.data.toList 7 = b7 at *
  generalize Cs.byt s.data.toList 8 = b8 at *
  generalize Cs.byt s.data.toList 9 = b9 at *
  generalize Cs.byt s.data.toList 10 = b10 at *
  generalize Cs.byt s.data.toList 11 = b11 at *
  have a1 : (K : Int) / 4096 = (q : Int) := by omega
  have a2 : (K : Int) % 4096 = (r : Int) := by omega
  have hKi : (K : Int) < 65536 := by omega
  clear HC hck l0 l1 l2 l3 hKe HK hqr hK1
  go_enter Tryz.func145, Tryz.ntmps145
  go_wp2_with fail
  refine wp_region_later w.heap.size (by kernel_rfl) (by kernel_rfl) ?_
  repeat (any_goals (first | go_big_quiet_skip | (go_big_quiet_want; go_big_quiet_op; go_big_quiet_on)))
  refine wpQuiet_nil ?_
  intro wp0 hw0'
  obtain ⟨⟨wp, hbp⟩, hw0''⟩ := hw0'
  subst hw0''
  have HBP := Lib.hid hbp
  clear hbp
  try rw [e01]
  go_upto_if 25 with fail
  try rw [a1]
  try rw [a2]
  go_cut [7] (fun s7 wx => s7 = .int .i64 (Vs.zone1 r) ∧ wp0 = wx)
  case first =>
    clear g0 g1 g2 g3 g4 g5 g6 g7 g8 g9 g10 g11 HOK HNO HSO HZ2 CV CF CZ e23 e01 m0 m1 m2 m3 m4 m5 m6 m7 m8 a1 a2 hKi
    by_cases h8 : 2048 ≤ r
    · have h8' : (2048 : Int) ≤ (r : Int) := by omega
      go_wp2_with fail
      go_meet
      rw [HZ1.out, if_pos h8]
      exact ⟨rfl, rfl⟩
    · have h8' : (r : Int) < 2048 := by omega
      go_wp2_with fail
      go_meet
      rw [HZ1.out, if_neg h8]
      exact ⟨rfl, rfl⟩
  case rest =>
    obtain ⟨rfl, rfl⟩ := hcut
    have hz1 : -2048 ≤ Vs.zone1 r ∧ Vs.zone1 r ≤ 2047 := by rw [HZ1.out]; split <;> omega
    clear HZ1 e01 m0 m1 a1 a2 hKi g0 g1
    generalize Vs.zone1 r = z1 at *
    go_upto_region 7 with fail
    go_cut [33] (fun s33 wx => s33 = .bool (decide (q = 0 ∨ z1 = -2047)) ∧ wp0 = wx)
    case first =>
      clear g2 g3 g4 g5 g6 g7 g8 g9 g10 g11 HOK HNO HSO HZ2 CV CF CZ e23 m2 m3 m4 m5 m6 m7 m8
      by_cases hq : q = 0
      · have hq' : ((q : Int) == 0) = true := by rw [hq]; rfl
        have hd : decide (q = 0 ∨ z1 = -2047) = true := decide_eq_true (.inl hq)
        clear hq
        go_wp2_with fail
        go_meet
        exact ⟨by rw [hd], rfl⟩
      · have hq' : ((q : Int) == 0) = false := by rw [beq_eq_false_iff_ne]; omega
        obtain ⟨B, hB⟩ : ∃ B : Bool, (z1 == -2047) = B := ⟨_, rfl⟩
        have HD := Lib.hid (show decide (q = 0 ∨ z1 = -2047) = B by rw [← hB]; by_cases e : z1 = -2047 <;> simp [e, hq])
        clear hq
        go_wp2_with fail
        go_meet
        exact ⟨by rw [HD.out], rfl⟩
    case rest =>
      obtain ⟨rfl, rfl⟩ := hcut
      have hz2 : -2048 ≤ Vs.zone2 q r ∧ Vs.zone2 q r ≤ 2047 := by rw [HZ2.out]; split <;> omega
      have HZT := Lib.hid (fun h : decide (q = 0 ∨ z1 = -2047) = true => show Vs.zone2 q r = 0 from by rw [HZ2.out, if_pos (of_decide_eq_true h)])
      have HZF := Lib.hid (fun h : decide (q = 0 ∨ z1 = -2047) = false => show Vs.zone2 q r = z1 from by rw [HZ2.out, if_neg (of_decide_eq_false h)])
      clear HZ2
      generalize Vs.zone2 q r = Z at *
      generalize decide (q = 0 ∨ z1 = -2047) = C at *
      go_upto_if 33 with fail
      go_cut [7] (fun s7 wx => s7 = .int .i64 Z ∧ wp0 = wx)
      case first =>
        clear g2 g3 g4 g5 g6 g7 g8 g9 g10 g11 HOK HNO HSO CV CF CZ e23 m2 m3 m4 m5 m6 m7 m8
        cases C with
        | true =>
          go_wp2_with fail
          go_meet
          rw [HZT.out (by first | trivial | rfl)]
          exact ⟨rfl, rfl⟩
        | false =>
          go_wp2_with fail
          go_meet
          rw [HZF.out (by first | trivial | rfl)]
          exact ⟨rfl, rfl⟩
      case rest =>
        obtain ⟨rfl, rfl⟩ := hcut
        clear HZT HZF hz1
        go_wp2_with fail
        have wr2 : IntKind.i64.wrap (b2 : Int) = (b2 : Int) := IntWalk.i64_in _ (by omega)
        have wr3 : IntKind.i64.wrap (b3 : Int) = (b3 : Int) := IntWalk.i64_in _ (by omega)
        have wr4 : IntKind.i64.wrap (b4 : Int) = (b4 : Int) := IntWalk.i64_in _ (by omega)
        have wr5 : IntKind.i64.wrap (b5 : Int) = (b5 : Int) := IntWalk.i64_in _ (by omega)
        have wr6 : IntKind.i64.wrap (b6 : Int) = (b6 : Int) := IntWalk.i64_in _ (by omega)
        have wr7 : IntKind.i64.wrap (b7 : Int) = (b7 : Int) := IntWalk.i64_in _ (by omega)
        have wr8 : IntKind.i64.wrap (b8 : Int) = (b8 : Int) := IntWalk.i64_in _ (by omega)
        have wrm : IntKind.i64.wrap (256 * (b3 : Int)) = 256 * (b3 : Int) := IntWalk.i64_in _ (by omega)
        have wry : IntKind.i64.wrap (y23 : Int) = (y23 : Int) := IntWalk.i64_in _ (by omega)
        clear m2 m3 m4 m5 m6 m7 m8
        refine wp_region_held_drew (S := fun _ => True) (by kernel_rfl) trivial (fun hHeld => ?_)
        refine wpAnyH_take (i := 0) (v := .string s) rfl (by kernel_rfl) (by kernel_rfl) (by kernel_rfl) (fun _ _ _ h => h) (Or.inl ⟨by rfl, by intro w hSw; go_simp⟩) (by assumption) ?_
        simp only [Act.put, List.setIfInBounds_toArray, List.set_cons_zero, List.set_cons_succ, List.getElem_toArray, List.getElem_cons_zero]
        refine wpAnyH_take (i := 1) (v := .int .u8 (b2 : Int)) rfl (by kernel_rfl) (by kernel_rfl) (by kernel_rfl) (fun _ _ _ h => h) (Or.inl ⟨by rfl, by intro w hSw; go_simp⟩) (by assumption) ?_
        simp only [Act.put, List.setIfInBounds_toArray, List.set_cons_zero, List.set_cons_succ, List.getElem_toArray, List.getElem_cons_zero, List.getElem_cons_succ]
        refine wpAnyH_take (i := 2) (v := .int .i64 (b2 : Int)) rfl (by kernel_rfl) (by kernel_rfl) (by kernel_rfl) (fun _ _ _ h => h) (Or.inl ⟨by rfl, by intro w hSw; go_simp⟩) (by assumption) ?_
        simp only [Act.put, List.setIfInBounds_toArray, List.set_cons_zero, List.set_cons_succ, List.getElem_toArray, List.getElem_cons_zero, List.getElem_cons_succ]
        refine wpAnyH_take (i := 3) (v := .string s) rfl (by kernel_rfl) (by kernel_rfl) (by kernel_rfl) (fun _ _ _ h => h) (Or.inl ⟨by rfl, by intro w hSw; go_simp⟩) (by assumption) ?_
        simp only [Act.put, List.setIfInBounds_toArray, List.set_cons_zero, List.set_cons_succ, List.getElem_toArray, List.getElem_cons_zero, List.getElem_cons_succ]
        refine wpAnyH_take (i := 4) (v := .int .u8 (b3 : Int)) rfl (by kernel_rfl) (by kernel_rfl) (by kernel_rfl) (fun _ _ _ h => h) (Or.inl ⟨by rfl, by intro w hSw; go_simp⟩) (by assumption) ?_
        simp only [Act.put, List.setIfInBounds_toArray, List.set_cons_zero, List.set_cons_succ, List.getElem_toArray, List.getElem_cons_zero, List.getElem_cons_succ]
        refine wpAnyH_take (i := 5) (v := .int .i64 (b3 : Int)) rfl (by kernel_rfl) (by kernel_rfl) (by kernel_rfl) (fun _ _ _ h => h) (Or.inl ⟨by rfl, by intro w hSw; go_simp⟩) (by assumption) ?_
        simp only [Act.put, List.setIfInBounds_toArray, List.set_cons_zero, List.set_cons_succ, List.getElem_toArray, List.getElem_cons_zero, List.getElem_cons_succ]
        refine wpAnyH_take (i := 6) (v := .int .i64 (256 * (b3 : Int))) rfl (by kernel_rfl) (by kernel_rfl) (by kernel_rfl) (fun _ _ _ h => h) (Or.inl ⟨by rfl, by intro w hSw; go_simp⟩) (by assumption) ?_
        simp only [Act.put, List.setIfInBounds_toArray, List.set_cons_zero, List.set_cons_succ, List.getElem_toArray, List.getElem_cons_zero, List.getElem_cons_succ]
        refine wpAnyH_take (i := 7) (v := .int .i64 (y23 : Int)) rfl (by kernel_rfl) (by kernel_rfl) (by kernel_rfl) (fun _ _ _ h => h) (Or.inl ⟨by rfl, by intro w hSw; go_simp⟩) (by assumption) ?_
        simp only [Act.put, List.setIfInBounds_toArray, List.set_cons_zero, List.set_cons_succ, List.getElem_toArray, List.getElem_cons_zero, List.getElem_cons_succ]
        refine wpAnyH_take (i := 8) (v := .string s) rfl (by kernel_rfl) (by kernel_rfl) (by kernel_rfl) (fun _ _ _ h => h) (Or.inl ⟨by rfl, by intro w hSw; go_simp⟩) (by assumption) ?_
        simp only [Act.put, List.setIfInBounds_toArray, List.set_cons_zero, List.set_cons_succ, List.getElem_toArray, List.getElem_cons_zero, List.getElem_cons_succ]
        refine wpAnyH_take (i := 9) (v := .int .u8 (b4 : Int)) rfl (by kernel_rfl) (by kernel_rfl) (by kernel_rfl) (fun _ _ _ h => h) (Or.inl ⟨by rfl, by intro w hSw; go_simp⟩) (by assumption) ?_
        simp only [Act.put, List.setIfInBounds_toArray, List.set_cons_zero, List.set_cons_succ, List.getElem_toArray, List.getElem_cons_zero, List.getElem_cons_succ]
        refine wpAnyH_take (i := 10) (v := .int .i64 (b4 : Int)) rfl (by kernel_rfl) (by kernel_rfl) (by kernel_rfl) (fun _ _ _ h => h) (Or.inl ⟨by rfl, by intro w hSw; go_simp⟩) (by assumption) ?_
        simp only [Act.put, List.setIfInBounds_toArray, List.set_cons_zero, List.set_cons_succ, List.getElem_toArray, List.getElem_cons_zero, List.getElem_cons_succ]
        refine wpAnyH_take (i := 11) (v := .string s) rfl (by kernel_rfl) (by kernel_rfl) (by kernel_rfl) (fun _ _ _ h => h) (Or.inl ⟨by rfl, by intro w hSw; go_simp⟩) (by assumption) ?_
        simp only [Act.put, List.setIfInBounds_toArray, List.set_cons_zero, List.set_cons_succ, List.getElem_toArray, List.getElem_cons_zero, List.getElem_cons_succ]
        refine wpAnyH_take (i := 12) (v := .int .u8 (b5 : Int)) rfl (by kernel_rfl) (by kernel_rfl) (by kernel_rfl) (fun _ _ _ h => h) (Or.inl ⟨by rfl, by intro w hSw; go_simp⟩) (by assumption) ?_
        simp only [Act.put, List.setIfInBounds_toArray, List.set_cons_zero, List.set_cons_succ, List.getElem_toArray, List.getElem_cons_zero, List.getElem_cons_succ]
        refine wpAnyH_take (i := 13) (v := .int .i64 (b5 : Int)) rfl (by kernel_rfl) (by kernel_rfl) (by kernel_rfl) (fun _ _ _ h => h) (Or.inl ⟨by rfl, by intro w hSw; go_simp⟩) (by assumption) ?_
        simp only [Act.put, List.setIfInBounds_toArray, List.set_cons_zero, List.set_cons_succ, List.getElem_toArray, List.getElem_cons_zero, List.getElem_cons_succ]
        refine wpAnyH_take (i := 14) (v := .string s) rfl (by kernel_rfl) (by kernel_rfl) (by kernel_rfl) (fun _ _ _ h => h) (Or.inl ⟨by rfl, by intro w hSw; go_simp⟩) (by assumption) ?_
        simp only [Act.put, List.setIfInBounds_toArray, List.set_cons_zero, List.set_cons_succ, List.getElem_toArray, List.getElem_cons_zero, List.getElem_cons_succ]
        refine wpAnyH_take (i := 15) (v := .int .u8 (b6 : Int)) rfl (by kernel_rfl) (by kernel_rfl) (by kernel_rfl) (fun _ _ _ h => h) (Or.inl ⟨by rfl, by intro w hSw; go_simp⟩) (by assumption) ?_
        simp only [Act.put, List.setIfInBounds_toArray, List.set_cons_zero, List.set_cons_succ, List.getElem_toArray, List.getElem_cons_zero, List.getElem_cons_succ]
        refine wpAnyH_take (i := 16) (v := .int .i64 (b6 : Int)) rfl (by kernel_rfl) (by kernel_rfl) (by kernel_rfl) (fun _ _ _ h => h) (Or.inl ⟨by rfl, by intro w hSw; go_simp⟩) (by assumption) ?_
        simp only [Act.put, List.setIfInBounds_toArray, List.set_cons_zero, List.set_cons_succ, List.getElem_toArray, List.getElem_cons_zero, List.getElem_cons_succ]
        refine wpAnyH_take (i := 17) (v := .string s) rfl (by kernel_rfl) (by kernel_rfl) (by kernel_rfl) (fun _ _ _ h => h) (Or.inl ⟨by rfl, by intro w hSw; go_simp⟩) (by assumption) ?_
        simp only [Act.put, List.setIfInBounds_toArray, List.set_cons_zero, List.set_cons_succ, List.getElem_toArray, List.getElem_cons_zero, List.getElem_cons_succ]
        refine wpAnyH_take (i := 18) (v := .int .u8 (b7 : Int)) rfl (by kernel_rfl) (by kernel_rfl) (by kernel_rfl) (fun _ _ _ h => h) (Or.inl ⟨by rfl, by intro w hSw; go_simp⟩) (by assumption) ?_
        simp only [Act.put, List.setIfInBounds_toArray, List.set_cons_zero, List.set_cons_succ, List.getElem_toArray, List.getElem_cons_zero, List.getElem_cons_succ]
        refine wpAnyH_take (i := 19) (v := .int .i64 (b7 : Int)) rfl (by kernel_rfl) (by kernel_rfl) (by kernel_rfl) (fun _ _ _ h => h) (Or.inl ⟨by rfl, by intro w hSw; go_simp⟩) (by assumption) ?_
        simp only [Act.put, List.setIfInBounds_toArray, List.set_cons_zero, List.set_cons_succ, List.getElem_toArray, List.getElem_cons_zero, List.getElem_cons_succ]
        refine wpAnyH_take (i := 20) (v := .string s) rfl (by kernel_rfl) (by kernel_rfl) (by kernel_rfl) (fun _ _ _ h => h) (Or.inl ⟨by rfl, by intro w hSw; go_simp⟩) (by assumption) ?_
        simp only [Act.put, List.setIfInBounds_toArray, List.set_cons_zero, List.set_cons_succ, List.getElem_toArray, List.getElem_cons_zero, List.getElem_cons_succ]
        refine wpAnyH_take (i := 21) (v := .int .u8 (b8 : Int)) rfl (by kernel_rfl) (by kernel_rfl) (by kernel_rfl) (fun _ _ _ h => h) (Or.inl ⟨by rfl, by intro w hSw; go_simp⟩) (by assumption) ?_
        simp only [Act.put, List.setIfInBounds_toArray, List.set_cons_zero, List.set_cons_succ, List.getElem_toArray, List.getElem_cons_zero, List.getElem_cons_succ]
        refine wpAnyH_take (i := 22) (v := .int .i64 (b8 : Int)) rfl (by kernel_rfl) (by kernel_rfl) (by kernel_rfl) (fun _ _ _ h => h) (Or.inl ⟨by rfl, by intro w hSw; go_simp⟩) (by assumption) ?_
        simp only [Act.put, List.setIfInBounds_toArray, List.set_cons_zero, List.set_cons_succ, List.getElem_toArray, List.getElem_cons_zero, List.getElem_cons_succ]
        refine wpAnyH_take (i := 23) (v := .agg #[.int .i64 (y23 : Int), .int .i64 (b4 : Int), .int .i64 (b5 : Int), .int .i64 (b6 : Int), .int .i64 (b7 : Int), .int .i64 (b8 : Int)]) rfl (by kernel_rfl) (by kernel_rfl) (by kernel_rfl) (fun _ _ _ h => h) (Or.inl ⟨by rfl, by intro w hSw; go_simp⟩) (by assumption) ?_
        simp only [Act.put, List.setIfInBounds_toArray, List.set_cons_zero, List.set_cons_succ, List.getElem_toArray, List.getElem_cons_zero, List.getElem_cons_succ]
        refine wpAnyH_ready (rs := [24]) (by kernel_rfl) (by simp) ?_
        refine AllReadyH.cons rfl (fun K hK => ?_) AllReadyH.nil
        go_simp
        refine hK.out _ _ trivial (fun _ => ?_)
        clear hK K
        try simp only [Act.put, List.setIfInBounds_toArray, List.set_cons_zero, List.set_cons_succ]
        refine wpAnyH_ready (rs := [25]) (by kernel_rfl) (by simp) ?_
        refine AllReadyH.cons rfl (fun K hK => ?_) AllReadyH.nil
        go_simp
        refine hK.out _ _ trivial (fun _ => ?_)
        clear hK K
        try simp only [Act.put, List.setIfInBounds_toArray, List.set_cons_zero, List.set_cons_succ]
        refine wpAnyH_done (by kernel_rfl) ?_ _
        have HW1 := Lib.hid (show ((wp0.alloc (.cells #[.int .i64 (y23 : Int), .int .i64 (b4 : Int), .int .i64 (b5 : Int), .int .i64 (b6 : Int), .int .i64 (b7 : Int), .int .i64 (b8 : Int)] 161)).drew).heap[wp0.heap.size]? = some (.cells #[.int .i64 (y23 : Int), .int .i64 (b4 : Int), .int .i64 (b5 : Int), .int .i64 (b6 : Int), .int .i64 (b7 : Int), .int .i64 (b8 : Int)] 161 (0, 0)) from heap_alloc_new wp0 (.cells #[.int .i64 (y23 : Int), .int .i64 (b4 : Int), .int .i64 (b5 : Int), .int .i64 (b6 : Int), .int .i64 (b7 : Int), .int .i64 (b8 : Int)] 161))
        have HBW := Lib.hid ((HBP.out.alloc HBP.out.size (.cells #[.int .i64 (y23 : Int), .int .i64 (b4 : Int), .int .i64 (b5 : Int), .int .i64 (b6 : Int), .int .i64 (b7 : Int), .int .i64 (b8 : Int)] 161)).drew)
        generalize (wp0.alloc (.cells #[.int .i64 (y23 : Int), .int .i64 (b4 : Int), .int .i64 (b5 : Int), .int .i64 (b6 : Int), .int .i64 (b7 : Int), .int .i64 (b8 : Int)] 161)).drew = w1 at *
        clear hHeld g2 g3 g4 g5 g6 g7 g8 e23 wr2 wr3 wr4 wr5 wr6 wr7 wr8 wrm wry
        have c0 := cell_of_row _ _ 0 _ _ _ HW1.out
        have c1 := cell_of_row _ _ 1 _ _ _ HW1.out
        have c2 := cell_of_row _ _ 2 _ _ _ HW1.out
        have c3 := cell_of_row _ _ 3 _ _ _ HW1.out
        have c4 := cell_of_row _ _ 4 _ _ _ HW1.out
        have c5 := cell_of_row _ _ 5 _ _ _ HW1.out
        simp only [List.getElem?_toArray, List.getElem?_cons_zero, List.getElem?_cons_succ] at c0 c1 c2 c3 c4 c5
        by_cases q0 : q ≤ 1
        case neg =>
          have ok0 : True := trivial
          have dq : decide (1 < (q : Int)) = true := decide_eq_true (by omega)
          have HRR := Lib.hid (HNO.out (by rw [HSO.out]; rintro ⟨q1, q2, q3, q4, q5, q6, q7⟩; first | omega | (exact absurd (ok0.symm.trans q4) (by decide))))
          clear q0 HNO HOK HSO
          go_wp2_with fail
          go_ret3
          exact ⟨by rw [HRR.out]; rfl, HBW.out⟩
        have dq : decide (1 < (q : Int)) = false := decide_eq_false (by omega)
        by_cases z0 : -1440 ≤ Z ∧ Z ≤ 1440
        case neg =>
          have ok0 : True := trivial
          have CZ2 := Lib.hid (fun W => CZ.out Z W)
          have dz : (decide (-1440 ≤ Z) && decide (Z ≤ 1440)) = false := by rw [Bool.eq_false_iff]; simpa using fun a b => z0 ⟨a, b⟩
          rw [dz] at CZ2
          have HRR := Lib.hid (HNO.out (by rw [HSO.out]; rintro ⟨q1, q2, q3, q4, q5, q6, q7⟩; first | omega | (exact absurd (ok0.symm.trans q4) (by decide))))
          clear q0 z0 HNO HOK HSO dz CZ
          go_wp2_with fail
          with_reducible refine (CZ2.out _).mono ?_
          rintro e w2 ⟨rfl, hw⟩
          subst hw
          go_wp2_with fail
          go_ret3
          exact ⟨by rw [HRR.out]; rfl, HBW.out⟩
        have CZ2 := Lib.hid (fun W => CZ.out Z W)
        rw [decide_eq_true z0.1, decide_eq_true z0.2, Bool.true_and] at CZ2
        clear CZ
        cases ok0 : ok with
        | false =>
          rw [ok0] at CV
          have HRR := Lib.hid (HNO.out (by rw [HSO.out]; rintro ⟨q1, q2, q3, q4, q5, q6, q7⟩; first | omega | (exact absurd (ok0.symm.trans q4) (by decide))))
          clear q0 z0 HNO HOK HSO
          go_wp2_with fail
          with_reducible refine (CZ2.out _).mono ?_
          rintro e w2 ⟨rfl, hw⟩
          subst hw
          go_wp2_with fail
          with_reducible refine (CV.out _).mono ?_
          rintro e w3 ⟨rfl, hb3⟩
          have HB3 := Lib.hid (HBW.out.trans (hb3.mono HBW.out.size))
          have HW3 := Lib.hid ((hb3.block wp0.heap.size (Array.getElem?_eq_some_iff.1 HW1.out).1).trans HW1.out)
          clear hb3 c0 c1 c2 c3 c4 c5
          go_wp2_with fail
          go_ret3
          exact ⟨by rw [HRR.out]; rfl, HB3.out⟩
        | true =>
        rw [ok0] at CV
        by_cases v9 : b9 ≤ 99
        case neg =>
          have dv9 : decide (99 < (b9 : Int)) = true := decide_eq_true (by omega)
          have HRR := Lib.hid (HNO.out (by rw [HSO.out]; rintro ⟨q1, q2, q3, q4, q5, q6, q7⟩; first | omega | (exact absurd (ok0.symm.trans q4) (by decide))))
          clear q0 z0 HNO HOK HSO v9 
          go_wp2_with fail
          with_reducible refine (CZ2.out _).mono ?_
          rintro e w2 ⟨rfl, hw⟩
          subst hw
          go_wp2_with fail
          with_reducible refine (CV.out _).mono ?_
          rintro e w3 ⟨rfl, hb3⟩
          have HB3 := Lib.hid (HBW.out.trans (hb3.mono HBW.out.size))
          have HW3 := Lib.hid ((hb3.block wp0.heap.size (Array.getElem?_eq_some_iff.1 HW1.out).1).trans HW1.out)
          clear hb3 c0 c1 c2 c3 c4 c5
          go_wp2_with fail
          go_ret3
          exact ⟨by rw [HRR.out]; rfl, HB3.out⟩
        have dv9 : decide (99 < (b9 : Int)) = false := decide_eq_false (by omega)
        by_cases v10 : b10 ≤ 99
        case neg =>
          have dv10 : decide (99 < (b10 : Int)) = true := decide_eq_true (by omega)
          have HRR := Lib.hid (HNO.out (by rw [HSO.out]; rintro ⟨q1, q2, q3, q4, q5, q6, q7⟩; first | omega | (exact absurd (ok0.symm.trans q4) (by decide))))
          clear q0 z0 HNO HOK HSO v10 v9
          go_wp2_with fail
          with_reducible refine (CZ2.out _).mono ?_
          rintro e w2 ⟨rfl, hw⟩
          subst hw
          go_wp2_with fail
          with_reducible refine (CV.out _).mono ?_
          rintro e w3 ⟨rfl, hb3⟩
          have HB3 := Lib.hid (HBW.out.trans (hb3.mono HBW.out.size))
          have HW3 := Lib.hid ((hb3.block wp0.heap.size (Array.getElem?_eq_some_iff.1 HW1.out).1).trans HW1.out)
          clear hb3 c0 c1 c2 c3 c4 c5
          go_wp2_with fail
          go_ret3
          exact ⟨by rw [HRR.out]; rfl, HB3.out⟩
        have dv10 : decide (99 < (b10 : Int)) = false := decide_eq_false (by omega)
        by_cases v11 : b11 ≤ 99
        case neg =>
          have dv11 : decide (99 < (b11 : Int)) = true := decide_eq_true (by omega)
          have HRR := Lib.hid (HNO.out (by rw [HSO.out]; rintro ⟨q1, q2, q3, q4, q5, q6, q7⟩; first | omega | (exact absurd (ok0.symm.trans q4) (by decide))))
          clear q0 z0 HNO HOK HSO v11 v9 v10
          go_wp2_with fail
          with_reducible refine (CZ2.out _).mono ?_
          rintro e w2 ⟨rfl, hw⟩
          subst hw
          go_wp2_with fail
          with_reducible refine (CV.out _).mono ?_
          rintro e w3 ⟨rfl, hb3⟩
          have HB3 := Lib.hid (HBW.out.trans (hb3.mono HBW.out.size))
          have HW3 := Lib.hid ((hb3.block wp0.heap.size (Array.getElem?_eq_some_iff.1 HW1.out).1).trans HW1.out)
          clear hb3 c0 c1 c2 c3 c4 c5
          go_wp2_with fail
          go_ret3
          exact ⟨by rw [HRR.out]; rfl, HB3.out⟩
        have dv11 : decide (99 < (b11 : Int)) = false := decide_eq_false (by omega)
        have HRR := Lib.hid (HOK.out (by rw [HSO.out]; exact ⟨q0, z0.1, z0.2, ok0, v9, v10, v11⟩))
        have CF2 := Lib.hid (fun W => CF.out Z W ok0 z0.1 z0.2)
        clear q0 z0 HNO HOK HSO v9 v10 v11 CF
        generalize Vs.finR ck Z = FR at *
        go_wp2_with fail
        with_reducible refine (CZ2.out _).mono ?_
        rintro e w2 ⟨rfl, hw⟩
        subst hw
        go_wp2_with fail
        with_reducible refine (CV.out _).mono ?_
        rintro e w3 ⟨rfl, hb3⟩
        have HB3 := Lib.hid (HBW.out.trans (hb3.mono HBW.out.size))
        have HW3 := Lib.hid ((hb3.block wp0.heap.size (Array.getElem?_eq_some_iff.1 HW1.out).1).trans HW1.out)
        clear hb3 c0 c1 c2 c3 c4 c5
        have c0 := cell_of_row _ _ 0 _ _ _ HW3.out
        have c1 := cell_of_row _ _ 1 _ _ _ HW3.out
        have c2 := cell_of_row _ _ 2 _ _ _ HW3.out
        have c3 := cell_of_row _ _ 3 _ _ _ HW3.out
        have c4 := cell_of_row _ _ 4 _ _ _ HW3.out
        have c5 := cell_of_row _ _ 5 _ _ _ HW3.out
        simp only [List.getElem?_toArray, List.getElem?_cons_zero, List.getElem?_cons_succ] at c0 c1 c2 c3 c4 c5
        go_wp2_with fail
        with_reducible refine (CF2.out _).mono ?_
        rintro e w4 ⟨rfl, hb4⟩
        have HB4 := Lib.hid (HB3.out.trans (hb4.mono HB3.out.size))
        clear hb4 c0 c1 c2 c3 c4 c5
        go_wp2_with fail
        go_ret3
        exact ⟨by rw [HRR.out]; rfl, HB4.out⟩
end Go.Proofs.YthkppbimkjmbnaaGreatDoor

/-
  Plain: the reference's bodies (parts put into zero bytes one after the other) are the bodies written down; printed by mkput36.py.
-/
namespace Go.Proofs.YthkppbimkjmbnaaGreatDoor
namespace Vs
open Pm (le num at_ le_len num_le num_lt)
def putL (b : List UInt8) (a : Nat) (p : List UInt8) : List UInt8 := b.take (a - 16) ++ (p ++ b.drop (a - 16 + p.length))
def putsL (b : List UInt8) (l : List (Nat × List UInt8)) : List UInt8 := l.foldl (fun b x => putL b x.1 x.2) b
def putO (b : List UInt8) (a : Nat) (p : List UInt8) : List UInt8 := b.take a ++ (p ++ b.drop (a + p.length))
theorem pl {X s r : List UInt8} {a b : Nat} (h : a = b + 16) (e : putO X b s = r) : putL X a s = r := by
  subst h
  rw [← e]
  unfold putL putO
  rw [Nat.add_sub_cancel]
theorem put_skip {p q r s : List UInt8} {a b m : Nat} (hm : p.length = m) (hb : a = b + m) (h : putO q b s = r) : putO (p ++ q) a s = p ++ r := by
  subst hm hb
  rw [← h]
  unfold putO
  rw [List.take_append, List.drop_append, List.take_of_length_le (by omega), List.drop_eq_nil_of_le (by omega), List.nil_append, List.append_assoc, Nat.add_sub_cancel, show b + p.length + s.length - p.length = b + s.length by omega]
theorem hit {q s : List UInt8} {n a m k : Nat} (hs : s.length = m) (hn : n = a + m + k) : putO (z n ++ q) a s = z a ++ (s ++ (z k ++ q)) := by
  subst hs hn
  unfold putO
  have h1 : z (a + s.length + k) = z a ++ (z s.length ++ z k) := by rw [z_add, z_add, Nat.add_assoc]
  rw [h1]
  simp only [List.append_assoc]
  rw [List.take_append_of_le_length (by rw [z_len]; omega), List.take_of_length_le (by rw [z_len]; omega), List.drop_append, List.drop_eq_nil_of_le (by rw [z_len]; omega), List.nil_append, z_len, Nat.add_sub_cancel_left, List.drop_append, List.drop_eq_nil_of_le (by rw [z_len]; omega), z_len, Nat.sub_self, List.nil_append]
  rfl
theorem hitA {q s : List UInt8} {n m k : Nat} (hs : s.length = m) (hn : n = 0 + m + k) : putO (z n ++ q) 0 s = s ++ (z k ++ q) := hit hs hn
theorem hitK {q s : List UInt8} {n a m : Nat} (hs : s.length = m) (hn : n = a + m + 0) : putO (z n ++ q) a s = z a ++ (s ++ q) := hit (k := 0) hs hn
theorem hitAK {q s : List UInt8} {n m : Nat} (hs : s.length = m) (hn : n = 0 + m + 0) : putO (z n ++ q) 0 s = s ++ q := hit (k := 0) hs hn
theorem hitE {s : List UInt8} {n a m k : Nat} (hs : s.length = m) (hn : n = a + m + k) : putO (z n) a s = z a ++ (s ++ z k) := by
  have := hit (q := []) hs hn
  rwa [List.append_nil, List.append_nil] at this
theorem hitAE {s : List UInt8} {n m k : Nat} (hs : s.length = m) (hn : n = 0 + m + k) : putO (z n) 0 s = s ++ z k := hitE hs hn
theorem hitKE {s : List UInt8} {n a m : Nat} (hs : s.length = m) (hn : n = a + m + 0) : putO (z n) a s = z a ++ s := by
  have := hitE (k := 0) hs hn
  rwa [show z 0 = [] from rfl, List.append_nil] at this
theorem hitAKE {s : List UInt8} {n m : Nat} (hs : s.length = m) (hn : n = 0 + m + 0) : putO (z n) 0 s = s := hitKE (a := 0) hs hn
/-- The parts of prim, put one after the other. -/
theorem prim_puts (v : Vol) (hf : (fldL (by_ v.name) 32).length = 32) (hg : (fldL (by_ v.set) 128).length = 128) (ht : (stampR v.time).length = 12) : putsL (z 496) [(16, n4 1), (56, n2 v.number), (58, n2 v.discs), (60, n2 3), (62, n2 3), (64, n4 1), (68, n4 1), (24, fldL (by_ v.name) 32), (72, fldL (by_ v.set) 128), (200, csL), (264, csL), (376, stampR v.time), (388, implL)] = primL v := by
  have e0 : putL (z 496) 16 (n4 1) = n4 1 ++ z 492 := pl (b := 0) rfl (hitAE (n4_len _) rfl)
  have e1 : putL (n4 1 ++ z 492) 56 (n2 v.number) = n4 1 ++ (z 36 ++ (n2 v.number ++ z 454)) := pl (b := 40) rfl (put_skip (n4_len _) (b := 36) rfl (hitE (n2_len _) rfl))
  have e2 : putL (n4 1 ++ (z 36 ++ (n2 v.number ++ z 454))) 58 (n2 v.discs) = n4 1 ++ (z 36 ++ (n2 v.number ++ (n2 v.discs ++ z 452))) := pl (b := 42) rfl (put_skip (n4_len _) (b := 38) rfl (put_skip (z_len _) (b := 2) rfl (put_skip (n2_len _) (b := 0) rfl (hitAE (n2_len _) rfl))))
  have e3 : putL (n4 1 ++ (z 36 ++ (n2 v.number ++ (n2 v.discs ++ z 452)))) 60 (n2 3) = n4 1 ++ (z 36 ++ (n2 v.number ++ (n2 v.discs ++ (n2 3 ++ z 450)))) := pl (b := 44) rfl (put_skip (n4_len _) (b := 40) rfl (put_skip (z_len _) (b := 4) rfl (put_skip (n2_len _) (b := 2) rfl (put_skip (n2_len _) (b := 0) rfl (hitAE (n2_len _) rfl)))))
  have e4 : putL (n4 1 ++ (z 36 ++ (n2 v.number ++ (n2 v.discs ++ (n2 3 ++ z 450))))) 62 (n2 3) = n4 1 ++ (z 36 ++ (n2 v.number ++ (n2 v.discs ++ (n2 3 ++ (n2 3 ++ z 448))))) := pl (b := 46) rfl (put_skip (n4_len _) (b := 42) rfl (put_skip (z_len _) (b := 6) rfl (put_skip (n2_len _) (b := 4) rfl (put_skip (n2_len _) (b := 2) rfl (put_skip (n2_len _) (b := 0) rfl (hitAE (n2_len _) rfl))))))
  have e5 : putL (n4 1 ++ (z 36 ++ (n2 v.number ++ (n2 v.discs ++ (n2 3 ++ (n2 3 ++ z 448)))))) 64 (n4 1) = n4 1 ++ (z 36 ++ (n2 v.number ++ (n2 v.discs ++ (n2 3 ++ (n2 3 ++ (n4 1 ++ z 444)))))) := pl (b := 48) rfl (put_skip (n4_len _) (b := 44) rfl (put_skip (z_len _) (b := 8) rfl (put_skip (n2_len _) (b := 6) rfl (put_skip (n2_len _) (b := 4) rfl (put_skip (n2_len _) (b := 2) rfl (put_skip (n2_len _) (b := 0) rfl (hitAE (n4_len _) rfl)))))))
  have e6 : putL (n4 1 ++ (z 36 ++ (n2 v.number ++ (n2 v.discs ++ (n2 3 ++ (n2 3 ++ (n4 1 ++ z 444))))))) 68 (n4 1) = n4 1 ++ (z 36 ++ (n2 v.number ++ (n2 v.discs ++ (n2 3 ++ (n2 3 ++ (n4 1 ++ (n4 1 ++ z 440))))))) := pl (b := 52) rfl (put_skip (n4_len _) (b := 48) rfl (put_skip (z_len _) (b := 12) rfl (put_skip (n2_len _) (b := 10) rfl (put_skip (n2_len _) (b := 8) rfl (put_skip (n2_len _) (b := 6) rfl (put_skip (n2_len _) (b := 4) rfl (put_skip (n4_len _) (b := 0) rfl (hitAE (n4_len _) rfl))))))))
  have e7 : putL (n4 1 ++ (z 36 ++ (n2 v.number ++ (n2 v.discs ++ (n2 3 ++ (n2 3 ++ (n4 1 ++ (n4 1 ++ z 440)))))))) 24 (fldL (by_ v.name) 32) = n4 1 ++ (z 4 ++ (fldL (by_ v.name) 32 ++ (n2 v.number ++ (n2 v.discs ++ (n2 3 ++ (n2 3 ++ (n4 1 ++ (n4 1 ++ z 440)))))))) := pl (b := 8) rfl (put_skip (n4_len _) (b := 4) rfl (hitK hf rfl))
  have e8 : putL (n4 1 ++ (z 4 ++ (fldL (by_ v.name) 32 ++ (n2 v.number ++ (n2 v.discs ++ (n2 3 ++ (n2 3 ++ (n4 1 ++ (n4 1 ++ z 440))))))))) 72 (fldL (by_ v.set) 128) = n4 1 ++ (z 4 ++ (fldL (by_ v.name) 32 ++ (n2 v.number ++ (n2 v.discs ++ (n2 3 ++ (n2 3 ++ (n4 1 ++ (n4 1 ++ (fldL (by_ v.set) 128 ++ z 312))))))))) := pl (b := 56) rfl (put_skip (n4_len _) (b := 52) rfl (put_skip (z_len _) (b := 48) rfl (put_skip hf (b := 16) rfl (put_skip (n2_len _) (b := 14) rfl (put_skip (n2_len _) (b := 12) rfl (put_skip (n2_len _) (b := 10) rfl (put_skip (n2_len _) (b := 8) rfl (put_skip (n4_len _) (b := 4) rfl (put_skip (n4_len _) (b := 0) rfl (hitAE hg rfl))))))))))
  have e9 : putL (n4 1 ++ (z 4 ++ (fldL (by_ v.name) 32 ++ (n2 v.number ++ (n2 v.discs ++ (n2 3 ++ (n2 3 ++ (n4 1 ++ (n4 1 ++ (fldL (by_ v.set) 128 ++ z 312)))))))))) 200 (csL) = n4 1 ++ (z 4 ++ (fldL (by_ v.name) 32 ++ (n2 v.number ++ (n2 v.discs ++ (n2 3 ++ (n2 3 ++ (n4 1 ++ (n4 1 ++ (fldL (by_ v.set) 128 ++ (csL ++ z 248)))))))))) := pl (b := 184) rfl (put_skip (n4_len _) (b := 180) rfl (put_skip (z_len _) (b := 176) rfl (put_skip hf (b := 144) rfl (put_skip (n2_len _) (b := 142) rfl (put_skip (n2_len _) (b := 140) rfl (put_skip (n2_len _) (b := 138) rfl (put_skip (n2_len _) (b := 136) rfl (put_skip (n4_len _) (b := 132) rfl (put_skip (n4_len _) (b := 128) rfl (put_skip hg (b := 0) rfl (hitAE cs_len rfl)))))))))))
  have e10 : putL (n4 1 ++ (z 4 ++ (fldL (by_ v.name) 32 ++ (n2 v.number ++ (n2 v.discs ++ (n2 3 ++ (n2 3 ++ (n4 1 ++ (n4 1 ++ (fldL (by_ v.set) 128 ++ (csL ++ z 248))))))))))) 264 (csL) = n4 1 ++ (z 4 ++ (fldL (by_ v.name) 32 ++ (n2 v.number ++ (n2 v.discs ++ (n2 3 ++ (n2 3 ++ (n4 1 ++ (n4 1 ++ (fldL (by_ v.set) 128 ++ (csL ++ (csL ++ z 184))))))))))) := pl (b := 248) rfl (put_skip (n4_len _) (b := 244) rfl (put_skip (z_len _) (b := 240) rfl (put_skip hf (b := 208) rfl (put_skip (n2_len _) (b := 206) rfl (put_skip (n2_len _) (b := 204) rfl (put_skip (n2_len _) (b := 202) rfl (put_skip (n2_len _) (b := 200) rfl (put_skip (n4_len _) (b := 196) rfl (put_skip (n4_len _) (b := 192) rfl (put_skip hg (b := 64) rfl (put_skip cs_len (b := 0) rfl (hitAE cs_len rfl))))))))))))
  have e11 : putL (n4 1 ++ (z 4 ++ (fldL (by_ v.name) 32 ++ (n2 v.number ++ (n2 v.discs ++ (n2 3 ++ (n2 3 ++ (n4 1 ++ (n4 1 ++ (fldL (by_ v.set) 128 ++ (csL ++ (csL ++ z 184)))))))))))) 376 (stampR v.time) = n4 1 ++ (z 4 ++ (fldL (by_ v.name) 32 ++ (n2 v.number ++ (n2 v.discs ++ (n2 3 ++ (n2 3 ++ (n4 1 ++ (n4 1 ++ (fldL (by_ v.set) 128 ++ (csL ++ (csL ++ (z 48 ++ (stampR v.time ++ z 124))))))))))))) := pl (b := 360) rfl (put_skip (n4_len _) (b := 356) rfl (put_skip (z_len _) (b := 352) rfl (put_skip hf (b := 320) rfl (put_skip (n2_len _) (b := 318) rfl (put_skip (n2_len _) (b := 316) rfl (put_skip (n2_len _) (b := 314) rfl (put_skip (n2_len _) (b := 312) rfl (put_skip (n4_len _) (b := 308) rfl (put_skip (n4_len _) (b := 304) rfl (put_skip hg (b := 176) rfl (put_skip cs_len (b := 112) rfl (put_skip cs_len (b := 48) rfl (hitE ht rfl)))))))))))))
  have e12 : putL (n4 1 ++ (z 4 ++ (fldL (by_ v.name) 32 ++ (n2 v.number ++ (n2 v.discs ++ (n2 3 ++ (n2 3 ++ (n4 1 ++ (n4 1 ++ (fldL (by_ v.set) 128 ++ (csL ++ (csL ++ (z 48 ++ (stampR v.time ++ z 124)))))))))))))) 388 (implL) = n4 1 ++ (z 4 ++ (fldL (by_ v.name) 32 ++ (n2 v.number ++ (n2 v.discs ++ (n2 3 ++ (n2 3 ++ (n4 1 ++ (n4 1 ++ (fldL (by_ v.set) 128 ++ (csL ++ (csL ++ (z 48 ++ (stampR v.time ++ (implL ++ z 92)))))))))))))) := pl (b := 372) rfl (put_skip (n4_len _) (b := 368) rfl (put_skip (z_len _) (b := 364) rfl (put_skip hf (b := 332) rfl (put_skip (n2_len _) (b := 330) rfl (put_skip (n2_len _) (b := 328) rfl (put_skip (n2_len _) (b := 326) rfl (put_skip (n2_len _) (b := 324) rfl (put_skip (n4_len _) (b := 320) rfl (put_skip (n4_len _) (b := 316) rfl (put_skip hg (b := 188) rfl (put_skip cs_len (b := 124) rfl (put_skip cs_len (b := 60) rfl (put_skip (z_len _) (b := 12) rfl (put_skip ht (b := 0) rfl (hitAE impl_len rfl)))))))))))))))
  unfold putsL
  simp only [List.foldl_cons, List.foldl_nil]
  rw [e0, e1, e2, e3, e4, e5, e6, e7, e8, e9, e10, e11, e12]
  all_goals (first | rfl | simp only [primL, longL, extL, List.append_assoc])
/-- The parts of part, put one after the other. -/
theorem part_puts (p : Part) : putsL (z 496) [(16, n4 2), (20, n2 1), (22, n2 p.number), (24, contL), (64, n4 (p.bcount * 2048)), (68, n4 p.bstart), (184, n4 p.access), (188, n4 p.start), (192, n4 p.count), (196, implL)] = partL p := by
  have e0 : putL (z 496) 16 (n4 2) = n4 2 ++ z 492 := pl (b := 0) rfl (hitAE (n4_len _) rfl)
  have e1 : putL (n4 2 ++ z 492) 20 (n2 1) = n4 2 ++ (n2 1 ++ z 490) := pl (b := 4) rfl (put_skip (n4_len _) (b := 0) rfl (hitAE (n2_len _) rfl))
  have e2 : putL (n4 2 ++ (n2 1 ++ z 490)) 22 (n2 p.number) = n4 2 ++ (n2 1 ++ (n2 p.number ++ z 488)) := pl (b := 6) rfl (put_skip (n4_len _) (b := 2) rfl (put_skip (n2_len _) (b := 0) rfl (hitAE (n2_len _) rfl)))
  have e3 : putL (n4 2 ++ (n2 1 ++ (n2 p.number ++ z 488))) 24 (contL) = n4 2 ++ (n2 1 ++ (n2 p.number ++ (contL ++ z 456))) := pl (b := 8) rfl (put_skip (n4_len _) (b := 4) rfl (put_skip (n2_len _) (b := 2) rfl (put_skip (n2_len _) (b := 0) rfl (hitAE cont_len rfl))))
  have e4 : putL (n4 2 ++ (n2 1 ++ (n2 p.number ++ (contL ++ z 456)))) 64 (n4 (p.bcount * 2048)) = n4 2 ++ (n2 1 ++ (n2 p.number ++ (contL ++ (z 8 ++ (n4 (p.bcount * 2048) ++ z 444))))) := pl (b := 48) rfl (put_skip (n4_len _) (b := 44) rfl (put_skip (n2_len _) (b := 42) rfl (put_skip (n2_len _) (b := 40) rfl (put_skip cont_len (b := 8) rfl (hitE (n4_len _) rfl)))))
  have e5 : putL (n4 2 ++ (n2 1 ++ (n2 p.number ++ (contL ++ (z 8 ++ (n4 (p.bcount * 2048) ++ z 444)))))) 68 (n4 p.bstart) = n4 2 ++ (n2 1 ++ (n2 p.number ++ (contL ++ (z 8 ++ (n4 (p.bcount * 2048) ++ (n4 p.bstart ++ z 440)))))) := pl (b := 52) rfl (put_skip (n4_len _) (b := 48) rfl (put_skip (n2_len _) (b := 46) rfl (put_skip (n2_len _) (b := 44) rfl (put_skip cont_len (b := 12) rfl (put_skip (z_len _) (b := 4) rfl (put_skip (n4_len _) (b := 0) rfl (hitAE (n4_len _) rfl)))))))
  have e6 : putL (n4 2 ++ (n2 1 ++ (n2 p.number ++ (contL ++ (z 8 ++ (n4 (p.bcount * 2048) ++ (n4 p.bstart ++ z 440))))))) 184 (n4 p.access) = n4 2 ++ (n2 1 ++ (n2 p.number ++ (contL ++ (z 8 ++ (n4 (p.bcount * 2048) ++ (n4 p.bstart ++ (z 112 ++ (n4 p.access ++ z 324)))))))) := pl (b := 168) rfl (put_skip (n4_len _) (b := 164) rfl (put_skip (n2_len _) (b := 162) rfl (put_skip (n2_len _) (b := 160) rfl (put_skip cont_len (b := 128) rfl (put_skip (z_len _) (b := 120) rfl (put_skip (n4_len _) (b := 116) rfl (put_skip (n4_len _) (b := 112) rfl (hitE (n4_len _) rfl))))))))
  have e7 : putL (n4 2 ++ (n2 1 ++ (n2 p.number ++ (contL ++ (z 8 ++ (n4 (p.bcount * 2048) ++ (n4 p.bstart ++ (z 112 ++ (n4 p.access ++ z 324))))))))) 188 (n4 p.start) = n4 2 ++ (n2 1 ++ (n2 p.number ++ (contL ++ (z 8 ++ (n4 (p.bcount * 2048) ++ (n4 p.bstart ++ (z 112 ++ (n4 p.access ++ (n4 p.start ++ z 320))))))))) := pl (b := 172) rfl (put_skip (n4_len _) (b := 168) rfl (put_skip (n2_len _) (b := 166) rfl (put_skip (n2_len _) (b := 164) rfl (put_skip cont_len (b := 132) rfl (put_skip (z_len _) (b := 124) rfl (put_skip (n4_len _) (b := 120) rfl (put_skip (n4_len _) (b := 116) rfl (put_skip (z_len _) (b := 4) rfl (put_skip (n4_len _) (b := 0) rfl (hitAE (n4_len _) rfl))))))))))
  have e8 : putL (n4 2 ++ (n2 1 ++ (n2 p.number ++ (contL ++ (z 8 ++ (n4 (p.bcount * 2048) ++ (n4 p.bstart ++ (z 112 ++ (n4 p.access ++ (n4 p.start ++ z 320)))))))))) 192 (n4 p.count) = n4 2 ++ (n2 1 ++ (n2 p.number ++ (contL ++ (z 8 ++ (n4 (p.bcount * 2048) ++ (n4 p.bstart ++ (z 112 ++ (n4 p.access ++ (n4 p.start ++ (n4 p.count ++ z 316)))))))))) := pl (b := 176) rfl (put_skip (n4_len _) (b := 172) rfl (put_skip (n2_len _) (b := 170) rfl (put_skip (n2_len _) (b := 168) rfl (put_skip cont_len (b := 136) rfl (put_skip (z_len _) (b := 128) rfl (put_skip (n4_len _) (b := 124) rfl (put_skip (n4_len _) (b := 120) rfl (put_skip (z_len _) (b := 8) rfl (put_skip (n4_len _) (b := 4) rfl (put_skip (n4_len _) (b := 0) rfl (hitAE (n4_len _) rfl)))))))))))
  have e9 : putL (n4 2 ++ (n2 1 ++ (n2 p.number ++ (contL ++ (z 8 ++ (n4 (p.bcount * 2048) ++ (n4 p.bstart ++ (z 112 ++ (n4 p.access ++ (n4 p.start ++ (n4 p.count ++ z 316))))))))))) 196 (implL) = n4 2 ++ (n2 1 ++ (n2 p.number ++ (contL ++ (z 8 ++ (n4 (p.bcount * 2048) ++ (n4 p.bstart ++ (z 112 ++ (n4 p.access ++ (n4 p.start ++ (n4 p.count ++ (implL ++ z 284))))))))))) := pl (b := 180) rfl (put_skip (n4_len _) (b := 176) rfl (put_skip (n2_len _) (b := 174) rfl (put_skip (n2_len _) (b := 172) rfl (put_skip cont_len (b := 140) rfl (put_skip (z_len _) (b := 132) rfl (put_skip (n4_len _) (b := 128) rfl (put_skip (n4_len _) (b := 124) rfl (put_skip (z_len _) (b := 12) rfl (put_skip (n4_len _) (b := 8) rfl (put_skip (n4_len _) (b := 4) rfl (put_skip (n4_len _) (b := 0) rfl (hitAE impl_len rfl))))))))))))
  unfold putsL
  simp only [List.foldl_cons, List.foldl_nil]
  rw [e0, e1, e2, e3, e4, e5, e6, e7, e8, e9]
  all_goals (first | rfl | simp only [partL, longL, extL, List.append_assoc])
/-- The parts of log, put one after the other. -/
theorem log_puts (d : D) (hf : (fldL (by_ d.vol.name) 128).length = 128) : putsL (z 424 ++ by_ d.table) [(16, n4 3), (20, csL), (84, fldL (by_ d.vol.name) 128), (212, n4 2048), (216, domL), (248, longL d.fk d.fl d.fb d.fp), (264, n4 d.table.size), (268, n4 d.maps), (272, implL), (432, extL d.istart d.icount)] = logL d := by
  have e0 : putL (z 424 ++ by_ d.table) 16 (n4 3) = n4 3 ++ (z 420 ++ by_ d.table) := pl (b := 0) rfl (hitA (n4_len _) rfl)
  have e1 : putL (n4 3 ++ (z 420 ++ by_ d.table)) 20 (csL) = n4 3 ++ (csL ++ (z 356 ++ by_ d.table)) := pl (b := 4) rfl (put_skip (n4_len _) (b := 0) rfl (hitA cs_len rfl))
  have e2 : putL (n4 3 ++ (csL ++ (z 356 ++ by_ d.table))) 84 (fldL (by_ d.vol.name) 128) = n4 3 ++ (csL ++ (fldL (by_ d.vol.name) 128 ++ (z 228 ++ by_ d.table))) := pl (b := 68) rfl (put_skip (n4_len _) (b := 64) rfl (put_skip cs_len (b := 0) rfl (hitA hf rfl)))
  have e3 : putL (n4 3 ++ (csL ++ (fldL (by_ d.vol.name) 128 ++ (z 228 ++ by_ d.table)))) 212 (n4 2048) = n4 3 ++ (csL ++ (fldL (by_ d.vol.name) 128 ++ (n4 2048 ++ (z 224 ++ by_ d.table)))) := pl (b := 196) rfl (put_skip (n4_len _) (b := 192) rfl (put_skip cs_len (b := 128) rfl (put_skip hf (b := 0) rfl (hitA (n4_len _) rfl))))
  have e4 : putL (n4 3 ++ (csL ++ (fldL (by_ d.vol.name) 128 ++ (n4 2048 ++ (z 224 ++ by_ d.table))))) 216 (domL) = n4 3 ++ (csL ++ (fldL (by_ d.vol.name) 128 ++ (n4 2048 ++ (domL ++ (z 192 ++ by_ d.table))))) := pl (b := 200) rfl (put_skip (n4_len _) (b := 196) rfl (put_skip cs_len (b := 132) rfl (put_skip hf (b := 4) rfl (put_skip (n4_len _) (b := 0) rfl (hitA dom_len rfl)))))
  have e5 : putL (n4 3 ++ (csL ++ (fldL (by_ d.vol.name) 128 ++ (n4 2048 ++ (domL ++ (z 192 ++ by_ d.table)))))) 248 (longL d.fk d.fl d.fb d.fp) = n4 3 ++ (csL ++ (fldL (by_ d.vol.name) 128 ++ (n4 2048 ++ (domL ++ (longL d.fk d.fl d.fb d.fp ++ (z 176 ++ by_ d.table)))))) := pl (b := 232) rfl (put_skip (n4_len _) (b := 228) rfl (put_skip cs_len (b := 164) rfl (put_skip hf (b := 36) rfl (put_skip (n4_len _) (b := 32) rfl (put_skip dom_len (b := 0) rfl (hitA (longL_len _ _ _ _) rfl))))))
  have e6 : putL (n4 3 ++ (csL ++ (fldL (by_ d.vol.name) 128 ++ (n4 2048 ++ (domL ++ (longL d.fk d.fl d.fb d.fp ++ (z 176 ++ by_ d.table))))))) 264 (n4 d.table.size) = n4 3 ++ (csL ++ (fldL (by_ d.vol.name) 128 ++ (n4 2048 ++ (domL ++ (longL d.fk d.fl d.fb d.fp ++ (n4 d.table.size ++ (z 172 ++ by_ d.table))))))) := pl (b := 248) rfl (put_skip (n4_len _) (b := 244) rfl (put_skip cs_len (b := 180) rfl (put_skip hf (b := 52) rfl (put_skip (n4_len _) (b := 48) rfl (put_skip dom_len (b := 16) rfl (put_skip (longL_len _ _ _ _) (b := 0) rfl (hitA (n4_len _) rfl)))))))
  have e7 : putL (n4 3 ++ (csL ++ (fldL (by_ d.vol.name) 128 ++ (n4 2048 ++ (domL ++ (longL d.fk d.fl d.fb d.fp ++ (n4 d.table.size ++ (z 172 ++ by_ d.table)))))))) 268 (n4 d.maps) = n4 3 ++ (csL ++ (fldL (by_ d.vol.name) 128 ++ (n4 2048 ++ (domL ++ (longL d.fk d.fl d.fb d.fp ++ (n4 d.table.size ++ (n4 d.maps ++ (z 168 ++ by_ d.table)))))))) := pl (b := 252) rfl (put_skip (n4_len _) (b := 248) rfl (put_skip cs_len (b := 184) rfl (put_skip hf (b := 56) rfl (put_skip (n4_len _) (b := 52) rfl (put_skip dom_len (b := 20) rfl (put_skip (longL_len _ _ _ _) (b := 4) rfl (put_skip (n4_len _) (b := 0) rfl (hitA (n4_len _) rfl))))))))
  have e8 : putL (n4 3 ++ (csL ++ (fldL (by_ d.vol.name) 128 ++ (n4 2048 ++ (domL ++ (longL d.fk d.fl d.fb d.fp ++ (n4 d.table.size ++ (n4 d.maps ++ (z 168 ++ by_ d.table))))))))) 272 (implL) = n4 3 ++ (csL ++ (fldL (by_ d.vol.name) 128 ++ (n4 2048 ++ (domL ++ (longL d.fk d.fl d.fb d.fp ++ (n4 d.table.size ++ (n4 d.maps ++ (implL ++ (z 136 ++ by_ d.table))))))))) := pl (b := 256) rfl (put_skip (n4_len _) (b := 252) rfl (put_skip cs_len (b := 188) rfl (put_skip hf (b := 60) rfl (put_skip (n4_len _) (b := 56) rfl (put_skip dom_len (b := 24) rfl (put_skip (longL_len _ _ _ _) (b := 8) rfl (put_skip (n4_len _) (b := 4) rfl (put_skip (n4_len _) (b := 0) rfl (hitA impl_len rfl)))))))))
  have e9 : putL (n4 3 ++ (csL ++ (fldL (by_ d.vol.name) 128 ++ (n4 2048 ++ (domL ++ (longL d.fk d.fl d.fb d.fp ++ (n4 d.table.size ++ (n4 d.maps ++ (implL ++ (z 136 ++ by_ d.table)))))))))) 432 (extL d.istart d.icount) = n4 3 ++ (csL ++ (fldL (by_ d.vol.name) 128 ++ (n4 2048 ++ (domL ++ (longL d.fk d.fl d.fb d.fp ++ (n4 d.table.size ++ (n4 d.maps ++ (implL ++ (z 128 ++ (extL d.istart d.icount ++ by_ d.table)))))))))) := pl (b := 416) rfl (put_skip (n4_len _) (b := 412) rfl (put_skip cs_len (b := 348) rfl (put_skip hf (b := 220) rfl (put_skip (n4_len _) (b := 216) rfl (put_skip dom_len (b := 184) rfl (put_skip (longL_len _ _ _ _) (b := 168) rfl (put_skip (n4_len _) (b := 164) rfl (put_skip (n4_len _) (b := 160) rfl (put_skip impl_len (b := 128) rfl (hitK (extL_len _ _) rfl))))))))))
  unfold putsL
  simp only [List.foldl_cons, List.foldl_nil]
  rw [e0, e1, e2, e3, e4, e5, e6, e7, e8, e9]
  all_goals (first | rfl | simp only [logL, longL, extL, List.append_assoc])
/-- The parts of fs, put one after the other. -/
theorem fs_puts (f : Fs) (ht : (stampR f.time).length = 12) (hf : (fldL (by_ f.name) 128).length = 128) (hg : (fldL (by_ f.name) 32).length = 32) : putsL (z 496) [(16, stampR f.time), (28, n2 3), (30, n2 3), (32, n4 1), (36, n4 1), (44, n4 f.num), (48, csL), (240, csL), (112, fldL (by_ f.name) 128), (304, fldL (by_ f.name) 32), (400, longL 0 2048 f.rb f.rp), (416, domL)] = fsL f := by
  have e0 : putL (z 496) 16 (stampR f.time) = stampR f.time ++ z 484 := pl (b := 0) rfl (hitAE ht rfl)
  have e1 : putL (stampR f.time ++ z 484) 28 (n2 3) = stampR f.time ++ (n2 3 ++ z 482) := pl (b := 12) rfl (put_skip ht (b := 0) rfl (hitAE (n2_len _) rfl))
  have e2 : putL (stampR f.time ++ (n2 3 ++ z 482)) 30 (n2 3) = stampR f.time ++ (n2 3 ++ (n2 3 ++ z 480)) := pl (b := 14) rfl (put_skip ht (b := 2) rfl (put_skip (n2_len _) (b := 0) rfl (hitAE (n2_len _) rfl)))
  have e3 : putL (stampR f.time ++ (n2 3 ++ (n2 3 ++ z 480))) 32 (n4 1) = stampR f.time ++ (n2 3 ++ (n2 3 ++ (n4 1 ++ z 476))) := pl (b := 16) rfl (put_skip ht (b := 4) rfl (put_skip (n2_len _) (b := 2) rfl (put_skip (n2_len _) (b := 0) rfl (hitAE (n4_len _) rfl))))
  have e4 : putL (stampR f.time ++ (n2 3 ++ (n2 3 ++ (n4 1 ++ z 476)))) 36 (n4 1) = stampR f.time ++ (n2 3 ++ (n2 3 ++ (n4 1 ++ (n4 1 ++ z 472)))) := pl (b := 20) rfl (put_skip ht (b := 8) rfl (put_skip (n2_len _) (b := 6) rfl (put_skip (n2_len _) (b := 4) rfl (put_skip (n4_len _) (b := 0) rfl (hitAE (n4_len _) rfl)))))
  have e5 : putL (stampR f.time ++ (n2 3 ++ (n2 3 ++ (n4 1 ++ (n4 1 ++ z 472))))) 44 (n4 f.num) = stampR f.time ++ (n2 3 ++ (n2 3 ++ (n4 1 ++ (n4 1 ++ (z 4 ++ (n4 f.num ++ z 464)))))) := pl (b := 28) rfl (put_skip ht (b := 16) rfl (put_skip (n2_len _) (b := 14) rfl (put_skip (n2_len _) (b := 12) rfl (put_skip (n4_len _) (b := 8) rfl (put_skip (n4_len _) (b := 4) rfl (hitE (n4_len _) rfl))))))
  have e6 : putL (stampR f.time ++ (n2 3 ++ (n2 3 ++ (n4 1 ++ (n4 1 ++ (z 4 ++ (n4 f.num ++ z 464))))))) 48 (csL) = stampR f.time ++ (n2 3 ++ (n2 3 ++ (n4 1 ++ (n4 1 ++ (z 4 ++ (n4 f.num ++ (csL ++ z 400))))))) := pl (b := 32) rfl (put_skip ht (b := 20) rfl (put_skip (n2_len _) (b := 18) rfl (put_skip (n2_len _) (b := 16) rfl (put_skip (n4_len _) (b := 12) rfl (put_skip (n4_len _) (b := 8) rfl (put_skip (z_len _) (b := 4) rfl (put_skip (n4_len _) (b := 0) rfl (hitAE cs_len rfl))))))))
  have e7 : putL (stampR f.time ++ (n2 3 ++ (n2 3 ++ (n4 1 ++ (n4 1 ++ (z 4 ++ (n4 f.num ++ (csL ++ z 400)))))))) 240 (csL) = stampR f.time ++ (n2 3 ++ (n2 3 ++ (n4 1 ++ (n4 1 ++ (z 4 ++ (n4 f.num ++ (csL ++ (z 128 ++ (csL ++ z 208))))))))) := pl (b := 224) rfl (put_skip ht (b := 212) rfl (put_skip (n2_len _) (b := 210) rfl (put_skip (n2_len _) (b := 208) rfl (put_skip (n4_len _) (b := 204) rfl (put_skip (n4_len _) (b := 200) rfl (put_skip (z_len _) (b := 196) rfl (put_skip (n4_len _) (b := 192) rfl (put_skip cs_len (b := 128) rfl (hitE cs_len rfl)))))))))
  have e8 : putL (stampR f.time ++ (n2 3 ++ (n2 3 ++ (n4 1 ++ (n4 1 ++ (z 4 ++ (n4 f.num ++ (csL ++ (z 128 ++ (csL ++ z 208)))))))))) 112 (fldL (by_ f.name) 128) = stampR f.time ++ (n2 3 ++ (n2 3 ++ (n4 1 ++ (n4 1 ++ (z 4 ++ (n4 f.num ++ (csL ++ (fldL (by_ f.name) 128 ++ (csL ++ z 208))))))))) := pl (b := 96) rfl (put_skip ht (b := 84) rfl (put_skip (n2_len _) (b := 82) rfl (put_skip (n2_len _) (b := 80) rfl (put_skip (n4_len _) (b := 76) rfl (put_skip (n4_len _) (b := 72) rfl (put_skip (z_len _) (b := 68) rfl (put_skip (n4_len _) (b := 64) rfl (put_skip cs_len (b := 0) rfl (hitAK hf rfl)))))))))
  have e9 : putL (stampR f.time ++ (n2 3 ++ (n2 3 ++ (n4 1 ++ (n4 1 ++ (z 4 ++ (n4 f.num ++ (csL ++ (fldL (by_ f.name) 128 ++ (csL ++ z 208)))))))))) 304 (fldL (by_ f.name) 32) = stampR f.time ++ (n2 3 ++ (n2 3 ++ (n4 1 ++ (n4 1 ++ (z 4 ++ (n4 f.num ++ (csL ++ (fldL (by_ f.name) 128 ++ (csL ++ (fldL (by_ f.name) 32 ++ z 176)))))))))) := pl (b := 288) rfl (put_skip ht (b := 276) rfl (put_skip (n2_len _) (b := 274) rfl (put_skip (n2_len _) (b := 272) rfl (put_skip (n4_len _) (b := 268) rfl (put_skip (n4_len _) (b := 264) rfl (put_skip (z_len _) (b := 260) rfl (put_skip (n4_len _) (b := 256) rfl (put_skip cs_len (b := 192) rfl (put_skip hf (b := 64) rfl (put_skip cs_len (b := 0) rfl (hitAE hg rfl)))))))))))
  have e10 : putL (stampR f.time ++ (n2 3 ++ (n2 3 ++ (n4 1 ++ (n4 1 ++ (z 4 ++ (n4 f.num ++ (csL ++ (fldL (by_ f.name) 128 ++ (csL ++ (fldL (by_ f.name) 32 ++ z 176))))))))))) 400 (longL 0 2048 f.rb f.rp) = stampR f.time ++ (n2 3 ++ (n2 3 ++ (n4 1 ++ (n4 1 ++ (z 4 ++ (n4 f.num ++ (csL ++ (fldL (by_ f.name) 128 ++ (csL ++ (fldL (by_ f.name) 32 ++ (z 64 ++ (longL 0 2048 f.rb f.rp ++ z 96)))))))))))) := pl (b := 384) rfl (put_skip ht (b := 372) rfl (put_skip (n2_len _) (b := 370) rfl (put_skip (n2_len _) (b := 368) rfl (put_skip (n4_len _) (b := 364) rfl (put_skip (n4_len _) (b := 360) rfl (put_skip (z_len _) (b := 356) rfl (put_skip (n4_len _) (b := 352) rfl (put_skip cs_len (b := 288) rfl (put_skip hf (b := 160) rfl (put_skip cs_len (b := 96) rfl (put_skip hg (b := 64) rfl (hitE (longL_len _ _ _ _) rfl))))))))))))
  have e11 : putL (stampR f.time ++ (n2 3 ++ (n2 3 ++ (n4 1 ++ (n4 1 ++ (z 4 ++ (n4 f.num ++ (csL ++ (fldL (by_ f.name) 128 ++ (csL ++ (fldL (by_ f.name) 32 ++ (z 64 ++ (longL 0 2048 f.rb f.rp ++ z 96))))))))))))) 416 (domL) = stampR f.time ++ (n2 3 ++ (n2 3 ++ (n4 1 ++ (n4 1 ++ (z 4 ++ (n4 f.num ++ (csL ++ (fldL (by_ f.name) 128 ++ (csL ++ (fldL (by_ f.name) 32 ++ (z 64 ++ (longL 0 2048 f.rb f.rp ++ (domL ++ z 64))))))))))))) := pl (b := 400) rfl (put_skip ht (b := 388) rfl (put_skip (n2_len _) (b := 386) rfl (put_skip (n2_len _) (b := 384) rfl (put_skip (n4_len _) (b := 380) rfl (put_skip (n4_len _) (b := 376) rfl (put_skip (z_len _) (b := 372) rfl (put_skip (n4_len _) (b := 368) rfl (put_skip cs_len (b := 304) rfl (put_skip hf (b := 176) rfl (put_skip cs_len (b := 112) rfl (put_skip hg (b := 80) rfl (put_skip (z_len _) (b := 16) rfl (put_skip (longL_len _ _ _ _) (b := 0) rfl (hitAE dom_len rfl))))))))))))))
  unfold putsL
  simp only [List.foldl_cons, List.foldl_nil]
  rw [e0, e1, e2, e3, e4, e5, e6, e7, e8, e9, e10, e11]
  all_goals (first | rfl | simp only [fsL, longL, extL, List.append_assoc])
/-- The parts of inhead, put one after the other. -/
theorem inhead_puts (i : In) (ht : (stampR i.time).length = 12) : putsL (z 64) [(16, stampR i.time), (28, n4 (if i.closed = true then 1 else 0)), (40, le 8 i.unique.toNat), (72, n4 i.free.length), (76, n4 46)] = stampR i.time ++ (n4 (if i.closed = true then 1 else 0) ++ (z 8 ++ (le 8 i.unique.toNat ++ (z 24 ++ (n4 i.free.length ++ n4 46))))) := by
  have e0 : putL (z 64) 16 (stampR i.time) = stampR i.time ++ z 52 := pl (b := 0) rfl (hitAE ht rfl)
  have e1 : putL (stampR i.time ++ z 52) 28 (n4 (if i.closed = true then 1 else 0)) = stampR i.time ++ (n4 (if i.closed = true then 1 else 0) ++ z 48) := pl (b := 12) rfl (put_skip ht (b := 0) rfl (hitAE (n4_len _) rfl))
  have e2 : putL (stampR i.time ++ (n4 (if i.closed = true then 1 else 0) ++ z 48)) 40 (le 8 i.unique.toNat) = stampR i.time ++ (n4 (if i.closed = true then 1 else 0) ++ (z 8 ++ (le 8 i.unique.toNat ++ z 32))) := pl (b := 24) rfl (put_skip ht (b := 12) rfl (put_skip (n4_len _) (b := 8) rfl (hitE (le_len _ _) rfl)))
  have e3 : putL (stampR i.time ++ (n4 (if i.closed = true then 1 else 0) ++ (z 8 ++ (le 8 i.unique.toNat ++ z 32)))) 72 (n4 i.free.length) = stampR i.time ++ (n4 (if i.closed = true then 1 else 0) ++ (z 8 ++ (le 8 i.unique.toNat ++ (z 24 ++ (n4 i.free.length ++ z 4))))) := pl (b := 56) rfl (put_skip ht (b := 44) rfl (put_skip (n4_len _) (b := 40) rfl (put_skip (z_len _) (b := 32) rfl (put_skip (le_len _ _) (b := 24) rfl (hitE (n4_len _) rfl)))))
  have e4 : putL (stampR i.time ++ (n4 (if i.closed = true then 1 else 0) ++ (z 8 ++ (le 8 i.unique.toNat ++ (z 24 ++ (n4 i.free.length ++ z 4)))))) 76 (n4 46) = stampR i.time ++ (n4 (if i.closed = true then 1 else 0) ++ (z 8 ++ (le 8 i.unique.toNat ++ (z 24 ++ (n4 i.free.length ++ n4 46))))) := pl (b := 60) rfl (put_skip ht (b := 48) rfl (put_skip (n4_len _) (b := 44) rfl (put_skip (z_len _) (b := 36) rfl (put_skip (le_len _ _) (b := 28) rfl (put_skip (z_len _) (b := 4) rfl (put_skip (n4_len _) (b := 0) rfl (hitAKE (n4_len _) rfl)))))))
  unfold putsL
  simp only [List.foldl_cons, List.foldl_nil]
  rw [e0, e1, e2, e3, e4]
  all_goals (first | rfl | simp only [stampR, longL, extL, List.append_assoc])
end Vs
end Go.Proofs.YthkppbimkjmbnaaGreatDoor

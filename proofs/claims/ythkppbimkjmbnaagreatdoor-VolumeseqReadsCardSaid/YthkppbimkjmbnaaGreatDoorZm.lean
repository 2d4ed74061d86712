/-
  The walk through the reference's ReadStamp.
-/
import Derived.Test.YthkppbimkjmbnaaGreatDoorZl
import Derived.Deep.RegionHeld3
import Derived.Test.YthkppbimkjmbnaaGreatDoorZO
namespace Go.Proofs.YthkppbimkjmbnaaGreatDoor
set_option linter.unusedVariables false
open Go.RowKit
open Vs (bs by_)

namespace Vs
/-- The zone as the reference reckons it. -/
def zone1 (r : Nat) : Int := if 2048 ≤ r then (r : Int) - 4096 else r
def zone2 (q r : Nat) : Int := if q = 0 ∨ zone1 r = -2047 then 0 else zone1 r
/-- What is right in a stamp. -/
def stampOk (s : List UInt8) (q : Nat) (Z : Int) : Prop := q ≤ 1 ∧ -1440 ≤ Z ∧ Z ≤ 1440 ∧ okC (clockOf s) = true ∧ Cs.byt s 9 ≤ 99 ∧ Cs.byt s 10 ≤ 99 ∧ Cs.byt s 11 ≤ 99
theorem zone_ref {s : List UInt8} {q r : Nat} (hk : kindOf s = ((4096 * q + r : Nat) : Int)) (hr : r < 4096) (hq : q ≤ 1) : zoneOf s = zone2 q r := by
  have k1 : kindOf s / 4096 = q := by omega
  have k2 : kindOf s % 4096 = r := by omega
  unfold zoneOf zone2 zone1
  rw [k1, k2]
  by_cases h0 : q = 0
  · rw [if_pos (.inl (by omega)), if_pos (.inl h0)]
  · have h1 : q = 1 := by omega
    by_cases h2 : r = 2049
    · rw [if_pos (.inr ⟨by omega, by omega⟩), if_pos (.inr (by rw [if_pos (by omega)]; omega))]
    · rw [if_neg (by omega)]
      by_cases h3 : 2048 ≤ r
      · rw [if_pos (by omega), if_pos h3, if_neg (by omega)]
      · rw [if_neg (by omega), if_neg h3, if_neg (by omega)]
theorem right_ref {s : List UInt8} {q r : Nat} (hk : kindOf s = ((4096 * q + r : Nat) : Int)) (hr : r < 4096) : (rightOf s && okC (clockOf s)) = true ↔ stampOk s q (zone2 q r) := by
  have k1 : kindOf s / 4096 = q := by omega
  unfold rightOf stampOk
  simp only [Bool.and_eq_true, decide_eq_true_eq]
  constructor
  · rintro ⟨⟨h1, h2, h3, h4, h5, h6⟩, h7⟩
    rw [zone_ref hk hr (by omega)] at h2 h3
    exact ⟨by omega, h2, h3, h7, h4, h5, h6⟩
  · rintro ⟨h1, h2, h3, h7, h4, h5, h6⟩
    rw [zone_ref hk hr h1]
    exact ⟨⟨by omega, h2, h3, h4, h5, h6⟩, h7⟩
theorem readS_ok {s : List UInt8} {q r : Nat} (hl : s.length = 12) (hk : kindOf s = ((4096 * q + r : Nat) : Int)) (hr : r < 4096) (h : stampOk s q (zone2 q r)) : readSR s = finR (clockOf s) (zone2 q r) := by
  unfold readSR finR
  rw [if_neg (by omega), if_pos ((right_ref hk hr).2 h), zone_ref hk hr h.1]
theorem readS_no {s : List UInt8} {q r : Nat} (hl : s.length = 12) (hk : kindOf s = ((4096 * q + r : Nat) : Int)) (hr : r < 4096) (h : ¬ stampOk s q (zone2 q r)) : readSR s = ((0, 0), 10) := by
  unfold readSR
  rw [if_neg (by omega), if_neg (fun g => h ((right_ref hk hr).1 g))]
end Vs

set_option maxHeartbeats 12800000 in
set_option maxRecDepth 100000 in
/-- masterdiscref16.ReadStamp. -/
theorem r16ReadStamp_any (s : ByteArray) (w : World) (hs : s.size ≤ 9223372036854775807) : Calls Tryz.prog 145 #[.string s] w fun e w' => e = .returned (.tuple #[.int .i64 (Vs.readSR (by_ s)).1.1, .int .i64 (Vs.readSR (by_ s)).1.2, .int .i64 (Vs.readSR (by_ s)).2]) ∧ Below w.heap.size w w' := by
  by_cases hl : s.size = 12
  case neg =>
    have HR := Lib.hid (show Vs.readSR (by_ s) = ((0, 0), 1) from if_pos (by rw [Vs.by_len]; exact hl))
    rw [HR.out]
    have hne : ((s.size : Int) != 12) = true := by rw [bne_iff_ne]; omega
    clear hl HR
    go_enter Tryz.func145, Tryz.ntmps145
    go_wp2_with fail
    go_ret3
    exact ⟨rfl, Below.refl _ _⟩
  have hz : ((s.size : Int) != 12) = false := by rw [hl]; rfl
  have hs12 : (s.size : Int) = 12 := by omega
  have g0 := Kit.byt_get s 0 (by omega)
  have g1 := Kit.byt_get s 1 (by omega)
  have g2 := Kit.byt_get s 2 (by omega)
  have g3 := Kit.byt_get s 3 (by omega)
  have g4 := Kit.byt_get s 4 (by omega)
  have g5 := Kit.byt_get s 5 (by omega)
  have g6 := Kit.byt_get s 6 (by omega)
  have g7 := Kit.byt_get s 7 (by omega)
  have g8 := Kit.byt_get s 8 (by omega)
  have g9 := Kit.byt_get s 9 (by omega)
  have g10 := Kit.byt_get s 10 (by omega)
  have g11 := Kit.byt_get s 11 (by omega)
  have l0 := Cs.byt_lt s.data.toList 0
  have l1 := Cs.byt_lt s.data.toList 1
  have l2 := Cs.byt_lt s.data.toList 2
  have l3 := Cs.byt_lt s.data.toList 3
  have HC := Lib.hid (show Vs.cC (Vs.clockOf (by_ s)) = #[.int .i64 ((Cs.byt (by_ s) 2 + 256 * Cs.byt (by_ s) 3 : Nat) : Int), .int .i64 ((Cs.byt (by_ s) 4 : Nat) : Int), .int .i64 ((Cs.byt (by_ s) 5 : Nat) : Int), .int .i64 ((Cs.byt (by_ s) 6 : Nat) : Int), .int .i64 ((Cs.byt (by_ s) 7 : Nat) : Int), .int .i64 ((Cs.byt (by_ s) 8 : Nat) : Int)] from rfl)
  obtain ⟨K, hKe⟩ : ∃ K : Nat, Cs.byt (by_ s) 0 + 256 * Cs.byt (by_ s) 1 = K := ⟨_, rfl⟩
  have hK1 : K < 65536 := by
    have e0 : Cs.byt (by_ s) 0 < 256 := l0
    have e1 : Cs.byt (by_ s) 1 < 256 := l1
    omega
  have HK := Lib.hid (show Vs.kindOf (by_ s) = (K : Int) from congrArg Nat.cast hKe)
  obtain ⟨q, r, hqr, hr4⟩ : ∃ q r : Nat, K = 4096 * q + r ∧ r < 4096 := ⟨K / 4096, K % 4096, by omega, by omega⟩
  have HOK := Lib.hid (fun h => Vs.readS_ok (s := by_ s) (q := q) (r := r) (by rw [Vs.by_len]; exact hl) (by rw [HK.out, hqr]) hr4 h)
  have HNO := Lib.hid (fun h => Vs.readS_no (s := by_ s) (q := q) (r := r) (by rw [Vs.by_len]; exact hl) (by rw [HK.out, hqr]) hr4 h)
  have HZ1 := Lib.hid (show Vs.zone1 r = if 2048 ≤ r then (r : Int) - 4096 else r from rfl)
  have HZ2 := Lib.hid (show Vs.zone2 q r = if q = 0 ∨ Vs.zone1 r = -2047 then 0 else Vs.zone1 r from rfl)
  have HSO := Lib.hid (fun Z => show Vs.stampOk (by_ s) q Z = (q ≤ 1 ∧ -1440 ≤ Z ∧ Z ≤ 1440 ∧ Vs.okC (Vs.clockOf (by_ s)) = true ∧ Cs.byt (by_ s) 9 ≤ 99 ∧ Cs.byt (by_ s) 10 ≤ 99 ∧ Cs.byt (by_ s) 11 ≤ 99) from rfl)
  generalize Vs.readSR (by_ s) = RR at *
  have CV := Lib.hid (fun W => r16Valid_any (Vs.clockOf (by_ s)) W (Int.natCast_nonneg _) (by
    show ((Cs.byt (by_ s) 2 + 256 * Cs.byt (by_ s) 3 : Nat) : Int) ≤ 100000
    have e0 : Cs.byt (by_ s) 2 < 256 := l2
    have e1 : Cs.byt (by_ s) 3 < 256 := l3
    omega))
  have CF := Lib.hid (fun Z W => r16Finish_any (Vs.clockOf (by_ s)) Z W)
  have CZ := Lib.hid (fun Z W => r16Zone_any Z W)
  rw [HC.out] at CV CF
  generalize hck : Vs.clockOf (by_ s) = ck at *
  generalize Vs.okC ck = ok at *
  unfold by_ at *
  have e23 : ((Cs.byt s.data.toList 2 : Nat) : Int) + 256 * ((Cs.byt s.data.toList 3 : Nat) : Int) = ((Cs.byt s.data.toList 2 + 256 * Cs.byt s.data.toList 3 : Nat) : Int) := by omega
  have e01 : ((Cs.byt s.data.toList 0 : Nat) : Int) + 256 * ((Cs.byt s.data.toList 1 : Nat) : Int) = (K : Int) := by omega
  generalize Cs.byt s.data.toList 2 + 256 * Cs.byt s.data.toList 3 = y23 at *
  have m0 : ((Cs.byt s.data.toList 0 : Nat) : Int) < 256 := by omega
  have m1 : ((Cs.byt s.data.toList 1 : Nat) : Int) < 256 := by omega
  have m2 : ((Cs.byt s.data.toList 2 : Nat) : Int) < 256 := by omega
  have m3 : ((Cs.byt s.data.toList 3 : Nat) : Int) < 256 := by omega
  generalize Cs.byt s.data.toList 0 = b0 at *
  generalize Cs.byt s.data.toList 1 = b1 at *
  generalize Cs.byt s.data.toList 2 = b2 at *
  generalize Cs.byt s.data.toList 3 = b3 at *
  have m4 : ((Cs.byt s.data.toList 4 : Nat) : Int) < 256 := by have := Cs.byt_lt s.data.toList 4; omega
  have m5 : ((Cs.byt s.data.toList 5 : Nat) : Int) < 256 := by have := Cs.byt_lt s.data.toList 5; omega
  have m6 : ((Cs.byt s.data.toList 6 : Nat) : Int) < 256 := by have := Cs.byt_lt s.data.toList 6; omega
  have m7 : ((Cs.byt s.data.toList 7 : Nat) : Int) < 256 := by have := Cs.byt_lt s.data.toList 7; omega
  have m8 : ((Cs.byt s.data.toList 8 : Nat) : Int) < 256 := by have := Cs.byt_lt s.data.toList 8; omega
  generalize Cs.byt s.data.toList 4 = b4 at *
  generalize Cs.byt s.data.toList 5 = b5 at *
  generalize Cs.byt s.data.toList 6 = b6 at *
  generalize Cs.byt s.data.toList 7 = b7 at *
  generalize Cs.byt s.data.toList 8 = b8 at *
  generalize Cs.byt s.data.toList 9 = b9 at *
  generalize Cs.byt s.data.toList 10 = b10 at *
  generalize Cs.byt s.data.toList 11 = b11 at *
  have a1 : (K : Int) / 4096 = (q : Int) := by omega
  have a2 : (K : Int) % 4096 = (r : Int) := by omega
  have hKi : (K : Int) < 65536 := by omega
  clear HC hck l0 l1 l2 l3 hKe HK hqr hK1
  go_enter Tryz.func145, Tryz.ntmps145
  go_wp2_with fail
  refine wp_region_later w.heap.size (by kernel_rfl) (by kernel_rfl) ?_
  repeat (any_goals (first | go_big_quiet_skip | (go_big_quiet_want; go_big_quiet_op; go_big_quiet_on)))
  refine wpQuiet_nil ?_
  intro wp0 hw0'
  obtain ⟨⟨wp, hbp⟩, hw0''⟩ := hw0'
  subst hw0''
  have HBP := Lib.hid hbp
  clear hbp
  try rw [e01]
  go_upto_if 25 with fail
  try rw [a1]
  try rw [a2]
  go_cut [7] (fun s7 wx => s7 = .int .i64 (Vs.zone1 r) ∧ wp0 = wx)
  case first =>
    clear g0 g1 g2 g3 g4 g5 g6 g7 g8 g9 g10 g11 HOK HNO HSO HZ2 CV CF CZ e23 e01 m0 m1 m2 m3 m4 m5 m6 m7 m8 a1 a2 hKi
    by_cases h8 : 2048 ≤ r
    · have h8' : (2048 : Int) ≤ (r : Int) := by omega
      go_wp2_with fail
      go_meet
      rw [HZ1.out, if_pos h8]
      exact ⟨rfl, rfl⟩
    · have h8' : (r : Int) < 2048 := by omega
      go_wp2_with fail
      go_meet
      rw [HZ1.out, if_neg h8]
      exact ⟨rfl, rfl⟩
  case rest =>
    obtain ⟨rfl, rfl⟩ := hcut
    have hz1 : -2048 ≤ Vs.zone1 r ∧ Vs.zone1 r ≤ 2047 := by rw [HZ1.out]; split <;> omega
    clear HZ1 e01 m0 m1 a1 a2 hKi g0 g1
    generalize Vs.zone1 r = z1 at *
    go_upto_region 7 with fail
    go_cut [33] (fun s33 wx => s33 = .bool (decide (q = 0 ∨ z1 = -2047)) ∧ wp0 = wx)
    case first =>
      clear g2 g3 g4 g5 g6 g7 g8 g9 g10 g11 HOK HNO HSO HZ2 CV CF CZ e23 m2 m3 m4 m5 m6 m7 m8
      by_cases hq : q = 0
      · have hq' : ((q : Int) == 0) = true := by rw [hq]; rfl
        have hd : decide (q = 0 ∨ z1 = -2047) = true := decide_eq_true (.inl hq)
        clear hq
        go_wp2_with fail
        go_meet
        exact ⟨by rw [hd], rfl⟩
      · have hq' : ((q : Int) == 0) = false := by rw [beq_eq_false_iff_ne]; omega
        obtain ⟨B, hB⟩ : ∃ B : Bool, (z1 == -2047) = B := ⟨_, rfl⟩
        have HD := Lib.hid (show decide (q = 0 ∨ z1 = -2047) = B by rw [← hB]; by_cases e : z1 = -2047 <;> simp [e, hq])
        clear hq
        go_wp2_with fail
        go_meet
        exact ⟨by rw [HD.out], rfl⟩
    case rest =>
      obtain ⟨rfl, rfl⟩ := hcut
      have hz2 : -2048 ≤ Vs.zone2 q r ∧ Vs.zone2 q r ≤ 2047 := by rw [HZ2.out]; split <;> omega
      have HZT := Lib.hid (fun h : decide (q = 0 ∨ z1 = -2047) = true => show Vs.zone2 q r = 0 from by rw [HZ2.out, if_pos (of_decide_eq_true h)])
      have HZF := Lib.hid (fun h : decide (q = 0 ∨ z1 = -2047) = false => show Vs.zone2 q r = z1 from by rw [HZ2.out, if_neg (of_decide_eq_false h)])
      clear HZ2
      generalize Vs.zone2 q r = Z at *
      generalize decide (q = 0 ∨ z1 = -2047) = C at *
      go_upto_if 33 with fail
      go_cut [7] (fun s7 wx => s7 = .int .i64 Z ∧ wp0 = wx)
      case first =>
        clear g2 g3 g4 g5 g6 g7 g8 g9 g10 g11 HOK HNO HSO CV CF CZ e23 m2 m3 m4 m5 m6 m7 m8
        cases C with
        | true =>
          go_wp2_with fail
          go_meet
          rw [HZT.out (by first | trivial | rfl)]
          exact ⟨rfl, rfl⟩
        | false =>
          go_wp2_with fail
          go_meet
          rw [HZF.out (by first | trivial | rfl)]
          exact ⟨rfl, rfl⟩
      case rest =>
        obtain ⟨rfl, rfl⟩ := hcut
        clear HZT HZF hz1
        go_wp2_with fail
        have wr2 : IntKind.i64.wrap (b2 : Int) = (b2 : Int) := IntWalk.i64_in _ (by omega)
        have wr3 : IntKind.i64.wrap (b3 : Int) = (b3 : Int) := IntWalk.i64_in _ (by omega)
        have wr4 : IntKind.i64.wrap (b4 : Int) = (b4 : Int) := IntWalk.i64_in _ (by omega)
        have wr5 : IntKind.i64.wrap (b5 : Int) = (b5 : Int) := IntWalk.i64_in _ (by omega)
        have wr6 : IntKind.i64.wrap (b6 : Int) = (b6 : Int) := IntWalk.i64_in _ (by omega)
        have wr7 : IntKind.i64.wrap (b7 : Int) = (b7 : Int) := IntWalk.i64_in _ (by omega)
        have wr8 : IntKind.i64.wrap (b8 : Int) = (b8 : Int) := IntWalk.i64_in _ (by omega)
        have wrm : IntKind.i64.wrap (256 * (b3 : Int)) = 256 * (b3 : Int) := IntWalk.i64_in _ (by omega)
        have wry : IntKind.i64.wrap (y23 : Int) = (y23 : Int) := IntWalk.i64_in _ (by omega)
        clear m2 m3 m4 m5 m6 m7 m8
        refine wp_region_held_drew (S := fun _ => True) (by kernel_rfl) trivial (fun hHeld => ?_)
        refine wpAnyH_take (i := 0) (v := .string s) rfl (by kernel_rfl) (by kernel_rfl) (by kernel_rfl) (fun _ _ _ h => h) (Or.inl ⟨by rfl, by intro w hSw; go_simp⟩) (by assumption) ?_
        simp only [Act.put, List.setIfInBounds_toArray, List.set_cons_zero, List.set_cons_succ, List.getElem_toArray, List.getElem_cons_zero]
        refine wpAnyH_take (i := 1) (v := .int .u8 (b2 : Int)) rfl (by kernel_rfl) (by kernel_rfl) (by kernel_rfl) (fun _ _ _ h => h) (Or.inl ⟨by rfl, by intro w hSw; go_simp⟩) (by assumption) ?_
        simp only [Act.put, List.setIfInBounds_toArray, List.set_cons_zero, List.set_cons_succ, List.getElem_toArray, List.getElem_cons_zero, List.getElem_cons_succ]
        refine wpAnyH_take (i := 2) (v := .int .i64 (b2 : Int)) rfl (by kernel_rfl) (by kernel_rfl) (by kernel_rfl) (fun _ _ _ h => h) (Or.inl ⟨by rfl, by intro w hSw; go_simp⟩) (by assumption) ?_
        simp only [Act.put, List.setIfInBounds_toArray, List.set_cons_zero, List.set_cons_succ, List.getElem_toArray, List.getElem_cons_zero, List.getElem_cons_succ]
        refine wpAnyH_take (i := 3) (v := .string s) rfl (by kernel_rfl) (by kernel_rfl) (by kernel_rfl) (fun _ _ _ h => h) (Or.inl ⟨by rfl, by intro w hSw; go_simp⟩) (by assumption) ?_
        simp only [Act.put, List.setIfInBounds_toArray, List.set_cons_zero, List.set_cons_succ, List.getElem_toArray, List.getElem_cons_zero, List.getElem_cons_succ]
        refine wpAnyH_take (i := 4) (v := .int .u8 (b3 : Int)) rfl (by kernel_rfl) (by kernel_rfl) (by kernel_rfl) (fun _ _ _ h => h) (Or.inl ⟨by rfl, by intro w hSw; go_simp⟩) (by assumption) ?_
        simp only [Act.put, List.setIfInBounds_toArray, List.set_cons_zero, List.set_cons_succ, List.getElem_toArray, List.getElem_cons_zero, List.getElem_cons_succ]
        refine wpAnyH_take (i := 5) (v := .int .i64 (b3 : Int)) rfl (by kernel_rfl) (by kernel_rfl) (by kernel_rfl) (fun _ _ _ h => h) (Or.inl ⟨by rfl, by intro w hSw; go_simp⟩) (by assumption) ?_
        simp only [Act.put, List.setIfInBounds_toArray, List.set_cons_zero, List.set_cons_succ, List.getElem_toArray, List.getElem_cons_zero, List.getElem_cons_succ]
        refine wpAnyH_take (i := 6) (v := .int .i64 (256 * (b3 : Int))) rfl (by kernel_rfl) (by kernel_rfl) (by kernel_rfl) (fun _ _ _ h => h) (Or.inl ⟨by rfl, by intro w hSw; go_simp⟩) (by assumption) ?_
        simp only [Act.put, List.setIfInBounds_toArray, List.set_cons_zero, List.set_cons_succ, List.getElem_toArray, List.getElem_cons_zero, List.getElem_cons_succ]
        refine wpAnyH_take (i := 7) (v := .int .i64 (y23 : Int)) rfl (by kernel_rfl) (by kernel_rfl) (by kernel_rfl) (fun _ _ _ h => h) (Or.inl ⟨by rfl, by intro w hSw; go_simp⟩) (by assumption) ?_
        simp only [Act.put, List.setIfInBounds_toArray, List.set_cons_zero, List.set_cons_succ, List.getElem_toArray, List.getElem_cons_zero, List.getElem_cons_succ]
        refine wpAnyH_take (i := 8) (v := .string s) rfl (by kernel_rfl) (by kernel_rfl) (by kernel_rfl) (fun _ _ _ h => h) (Or.inl ⟨by rfl, by intro w hSw; go_simp⟩) (by assumption) ?_
        simp only [Act.put, List.setIfInBounds_toArray, List.set_cons_zero, List.set_cons_succ, List.getElem_toArray, List.getElem_cons_zero, List.getElem_cons_succ]
        refine wpAnyH_take (i := 9) (v := .int .u8 (b4 : Int)) rfl (by kernel_rfl) (by kernel_rfl) (by kernel_rfl) (fun _ _ _ h => h) (Or.inl ⟨by rfl, by intro w hSw; go_simp⟩) (by assumption) ?_
        simp only [Act.put, List.setIfInBounds_toArray, List.set_cons_zero, List.set_cons_succ, List.getElem_toArray, List.getElem_cons_zero, List.getElem_cons_succ]
        refine wpAnyH_take (i := 10) (v := .int .i64 (b4 : Int)) rfl (by kernel_rfl) (by kernel_rfl) (by kernel_rfl) (fun _ _ _ h => h) (Or.inl ⟨by rfl, by intro w hSw; go_simp⟩) (by assumption) ?_
        simp only [Act.put, List.setIfInBounds_toArray, List.set_cons_zero, List.set_cons_succ, List.getElem_toArray, List.getElem_cons_zero, List.getElem_cons_succ]
        refine wpAnyH_take (i := 11) (v := .string s) rfl (by kernel_rfl) (by kernel_rfl) (by kernel_rfl) (fun _ _ _ h => h) (Or.inl ⟨by rfl, by intro w hSw; go_simp⟩) (by assumption) ?_
        simp only [Act.put, List.setIfInBounds_toArray, List.set_cons_zero, List.set_cons_succ, List.getElem_toArray, List.getElem_cons_zero, List.getElem_cons_succ]
        refine wpAnyH_take (i := 12) (v := .int .u8 (b5 : Int)) rfl (by kernel_rfl) (by kernel_rfl) (by kernel_rfl) (fun _ _ _ h => h) (Or.inl ⟨by rfl, by intro w hSw; go_simp⟩) (by assumption) ?_
        simp only [Act.put, List.setIfInBounds_toArray, List.set_cons_zero, List.set_cons_succ, List.getElem_toArray, List.getElem_cons_zero, List.getElem_cons_succ]
        refine wpAnyH_take (i := 13) (v := .int .i64 (b5 : Int)) rfl (by kernel_rfl) (by kernel_rfl) (by kernel_rfl) (fun _ _ _ h => h) (Or.inl ⟨by rfl, by intro w hSw; go_simp⟩) (by assumption) ?_
        simp only [Act.put, List.setIfInBounds_toArray, List.set_cons_zero, List.set_cons_succ, List.getElem_toArray, List.getElem_cons_zero, List.getElem_cons_succ]
        refine wpAnyH_take (i := 14) (v := .string s) rfl (by kernel_rfl) (by kernel_rfl) (by kernel_rfl) (fun _ _ _ h => h) (Or.inl ⟨by rfl, by intro w hSw; go_simp⟩) (by assumption) ?_
        simp only [Act.put, List.setIfInBounds_toArray, List.set_cons_zero, List.set_cons_succ, List.getElem_toArray, List.getElem_cons_zero, List.getElem_cons_succ]
        refine wpAnyH_take (i := 15) (v := .int .u8 (b6 : Int)) rfl (by kernel_rfl) (by kernel_rfl) (by kernel_rfl) (fun _ _ _ h => h) (Or.inl ⟨by rfl, by intro w hSw; go_simp⟩) (by assumption) ?_
        simp only [Act.put, List.setIfInBounds_toArray, List.set_cons_zero, List.set_cons_succ, List.getElem_toArray, List.getElem_cons_zero, List.getElem_cons_succ]
        refine wpAnyH_take (i := 16) (v := .int .i64 (b6 : Int)) rfl (by kernel_rfl) (by kernel_rfl) (by kernel_rfl) (fun _ _ _ h => h) (Or.inl ⟨by rfl, by intro w hSw; go_simp⟩) (by assumption) ?_
        simp only [Act.put, List.setIfInBounds_toArray, List.set_cons_zero, List.set_cons_succ, List.getElem_toArray, List.getElem_cons_zero, List.getElem_cons_succ]
        refine wpAnyH_take (i := 17) (v := .string s) rfl (by kernel_rfl) (by kernel_rfl) (by kernel_rfl) (fun _ _ _ h => h) (Or.inl ⟨by rfl, by intro w hSw; go_simp⟩) (by assumption) ?_
        simp only [Act.put, List.setIfInBounds_toArray, List.set_cons_zero, List.set_cons_succ, List.getElem_toArray, List.getElem_cons_zero, List.getElem_cons_succ]
        refine wpAnyH_take (i := 18) (v := .int .u8 (b7 : Int)) rfl (by kernel_rfl) (by kernel_rfl) (by kernel_rfl) (fun _ _ _ h => h) (Or.inl ⟨by rfl, by intro w hSw; go_simp⟩) (by assumption) ?_
        simp only [Act.put, List.setIfInBounds_toArray, List.set_cons_zero, List.set_cons_succ, List.getElem_toArray, List.getElem_cons_zero, List.getElem_cons_succ]
        refine wpAnyH_take (i := 19) (v := .int .i64 (b7 : Int)) rfl (by kernel_rfl) (by kernel_rfl) (by kernel_rfl) (fun _ _ _ h => h) (Or.inl ⟨by rfl, by intro w hSw; go_simp⟩) (by assumption) ?_
        simp only [Act.put, List.setIfInBounds_toArray, List.set_cons_zero, List.set_cons_succ, List.getElem_toArray, List.getElem_cons_zero, List.getElem_cons_succ]
        refine wpAnyH_take (i := 20) (v := .string s) rfl (by kernel_rfl) (by kernel_rfl) (by kernel_rfl) (fun _ _ _ h => h) (Or.inl ⟨by rfl, by intro w hSw; go_simp⟩) (by assumption) ?_
        simp only [Act.put, List.setIfInBounds_toArray, List.set_cons_zero, List.set_cons_succ, List.getElem_toArray, List.getElem_cons_zero, List.getElem_cons_succ]
        refine wpAnyH_take (i := 21) (v := .int .u8 (b8 : Int)) rfl (by kernel_rfl) (by kernel_rfl) (by kernel_rfl) (fun _ _ _ h => h) (Or.inl ⟨by rfl, by intro w hSw; go_simp⟩) (by assumption) ?_
        simp only [Act.put, List.setIfInBounds_toArray, List.set_cons_zero, List.set_cons_succ, List.getElem_toArray, List.getElem_cons_zero, List.getElem_cons_succ]
        refine wpAnyH_take (i := 22) (v := .int .i64 (b8 : Int)) rfl (by kernel_rfl) (by kernel_rfl) (by kernel_rfl) (fun _ _ _ h => h) (Or.inl ⟨by rfl, by intro w hSw; go_simp⟩) (by assumption) ?_
        simp only [Act.put, List.setIfInBounds_toArray, List.set_cons_zero, List.set_cons_succ, List.getElem_toArray, List.getElem_cons_zero, List.getElem_cons_succ]
        refine wpAnyH_take (i := 23) (v := .agg #[.int .i64 (y23 : Int), .int .i64 (b4 : Int), .int .i64 (b5 : Int), .int .i64 (b6 : Int), .int .i64 (b7 : Int), .int .i64 (b8 : Int)]) rfl (by kernel_rfl) (by kernel_rfl) (by kernel_rfl) (fun _ _ _ h => h) (Or.inl ⟨by rfl, by intro w hSw; go_simp⟩) (by assumption) ?_
        simp only [Act.put, List.setIfInBounds_toArray, List.set_cons_zero, List.set_cons_succ, List.getElem_toArray, List.getElem_cons_zero, List.getElem_cons_succ]
        refine wpAnyH_ready (rs := [24]) (by kernel_rfl) (by simp) ?_
        refine AllReadyH.cons rfl (fun K hK => ?_) AllReadyH.nil
        go_simp
        refine hK.out _ _ trivial (fun _ => ?_)
        clear hK K
        try simp only [Act.put, List.setIfInBounds_toArray, List.set_cons_zero, List.set_cons_succ]
        refine wpAnyH_ready (rs := [25]) (by kernel_rfl) (by simp) ?_
        refine AllReadyH.cons rfl (fun K hK => ?_) AllReadyH.nil
        go_simp
        refine hK.out _ _ trivial (fun _ => ?_)
        clear hK K
        try simp only [Act.put, List.setIfInBounds_toArray, List.set_cons_zero, List.set_cons_succ]
        refine wpAnyH_done (by kernel_rfl) ?_ _
        have HW1 := Lib.hid (show ((wp0.alloc (.cells #[.int .i64 (y23 : Int), .int .i64 (b4 : Int), .int .i64 (b5 : Int), .int .i64 (b6 : Int), .int .i64 (b7 : Int), .int .i64 (b8 : Int)] 161)).drew).heap[wp0.heap.size]? = some (.cells #[.int .i64 (y23 : Int), .int .i64 (b4 : Int), .int .i64 (b5 : Int), .int .i64 (b6 : Int), .int .i64 (b7 : Int), .int .i64 (b8 : Int)] 161 (0, 0)) from heap_alloc_new wp0 (.cells #[.int .i64 (y23 : Int), .int .i64 (b4 : Int), .int .i64 (b5 : Int), .int .i64 (b6 : Int), .int .i64 (b7 : Int), .int .i64 (b8 : Int)] 161))
        have HBW := Lib.hid ((HBP.out.alloc HBP.out.size (.cells #[.int .i64 (y23 : Int), .int .i64 (b4 : Int), .int .i64 (b5 : Int), .int .i64 (b6 : Int), .int .i64 (b7 : Int), .int .i64 (b8 : Int)] 161)).drew)
        generalize (wp0.alloc (.cells #[.int .i64 (y23 : Int), .int .i64 (b4 : Int), .int .i64 (b5 : Int), .int .i64 (b6 : Int), .int .i64 (b7 : Int), .int .i64 (b8 : Int)] 161)).drew = w1 at *
        clear hHeld g2 g3 g4 g5 g6 g7 g8 e23 wr2 wr3 wr4 wr5 wr6 wr7 wr8 wrm wry
        have c0 := cell_of_row _ _ 0 _ _ _ HW1.out
        have c1 := cell_of_row _ _ 1 _ _ _ HW1.out
        have c2 := cell_of_row _ _ 2 _ _ _ HW1.out
        have c3 := cell_of_row _ _ 3 _ _ _ HW1.out
        have c4 := cell_of_row _ _ 4 _ _ _ HW1.out
        have c5 := cell_of_row _ _ 5 _ _ _ HW1.out
        simp only [List.getElem?_toArray, List.getElem?_cons_zero, List.getElem?_cons_succ] at c0 c1 c2 c3 c4 c5
        by_cases q0 : q ≤ 1
        case neg =>
          have ok0 : True := trivial
          have dq : decide (1 < (q : Int)) = true := decide_eq_true (by omega)
          have HRR := Lib.hid (HNO.out (by rw [HSO.out]; rintro ⟨q1, q2, q3, q4, q5, q6, q7⟩; first | omega | (exact absurd (ok0.symm.trans q4) (by decide))))
          clear q0 HNO HOK HSO
          go_wp2_with fail
          go_ret3
          exact ⟨by rw [HRR.out]; rfl, HBW.out⟩
        have dq : decide (1 < (q : Int)) = false := decide_eq_false (by omega)
        by_cases z0 : -1440 ≤ Z ∧ Z ≤ 1440
        case neg =>
          have ok0 : True := trivial
          have CZ2 := Lib.hid (fun W => CZ.out Z W)
          have dz : (decide (-1440 ≤ Z) && decide (Z ≤ 1440)) = false := by rw [Bool.eq_false_iff]; simpa using fun a b => z0 ⟨a, b⟩
          rw [dz] at CZ2
          have HRR := Lib.hid (HNO.out (by rw [HSO.out]; rintro ⟨q1, q2, q3, q4, q5, q6, q7⟩; first | omega | (exact absurd (ok0.symm.trans q4) (by decide))))
          clear q0 z0 HNO HOK HSO dz CZ
          go_wp2_with fail
          with_reducible refine (CZ2.out _).mono ?_
          rintro e w2 ⟨rfl, hw⟩
          subst hw
          go_wp2_with fail
          go_ret3
          exact ⟨by rw [HRR.out]; rfl, HBW.out⟩
        have CZ2 := Lib.hid (fun W => CZ.out Z W)
        rw [decide_eq_true z0.1, decide_eq_true z0.2, Bool.true_and] at CZ2
        clear CZ
        cases ok0 : ok with
        | false =>
          rw [ok0] at CV
          have HRR := Lib.hid (HNO.out (by rw [HSO.out]; rintro ⟨q1, q2, q3, q4, q5, q6, q7⟩; first | omega | (exact absurd (ok0.symm.trans q4) (by decide))))
          clear q0 z0 HNO HOK HSO
          go_wp2_with fail
          with_reducible refine (CZ2.out _).mono ?_
          rintro e w2 ⟨rfl, hw⟩
          subst hw
          go_wp2_with fail
          with_reducible refine (CV.out _).mono ?_
          rintro e w3 ⟨rfl, hb3⟩
          have HB3 := Lib.hid (HBW.out.trans (hb3.mono HBW.out.size))
          have HW3 := Lib.hid ((hb3.block wp0.heap.size (Array.getElem?_eq_some_iff.1 HW1.out).1).trans HW1.out)
          clear hb3 c0 c1 c2 c3 c4 c5
          go_wp2_with fail
          go_ret3
          exact ⟨by rw [HRR.out]; rfl, HB3.out⟩
        | true =>
        rw [ok0] at CV
        by_cases v9 : b9 ≤ 99
        case neg =>
          have dv9 : decide (99 < (b9 : Int)) = true := decide_eq_true (by omega)
          have HRR := Lib.hid (HNO.out (by rw [HSO.out]; rintro ⟨q1, q2, q3, q4, q5, q6, q7⟩; first | omega | (exact absurd (ok0.symm.trans q4) (by decide))))
          clear q0 z0 HNO HOK HSO v9 
          go_wp2_with fail
          with_reducible refine (CZ2.out _).mono ?_
          rintro e w2 ⟨rfl, hw⟩
          subst hw
          go_wp2_with fail
          with_reducible refine (CV.out _).mono ?_
          rintro e w3 ⟨rfl, hb3⟩
          have HB3 := Lib.hid (HBW.out.trans (hb3.mono HBW.out.size))
          have HW3 := Lib.hid ((hb3.block wp0.heap.size (Array.getElem?_eq_some_iff.1 HW1.out).1).trans HW1.out)
          clear hb3 c0 c1 c2 c3 c4 c5
          go_wp2_with fail
          go_ret3
          exact ⟨by rw [HRR.out]; rfl, HB3.out⟩
        have dv9 : decide (99 < (b9 : Int)) = false := decide_eq_false (by omega)
        by_cases v10 : b10 ≤ 99
        case neg =>
          have dv10 : decide (99 < (b10 : Int)) = true := decide_eq_true (by omega)
          have HRR := Lib.hid (HNO.out (by rw [HSO.out]; rintro ⟨q1, q2, q3, q4, q5, q6, q7⟩; first | omega | (exact absurd (ok0.symm.trans q4) (by decide))))
          clear q0 z0 HNO HOK HSO v10 v9
          go_wp2_with fail
          with_reducible refine (CZ2.out _).mono ?_
          rintro e w2 ⟨rfl, hw⟩
          subst hw
          go_wp2_with fail
          with_reducible refine (CV.out _).mono ?_
          rintro e w3 ⟨rfl, hb3⟩
          have HB3 := Lib.hid (HBW.out.trans (hb3.mono HBW.out.size))
          have HW3 := Lib.hid ((hb3.block wp0.heap.size (Array.getElem?_eq_some_iff.1 HW1.out).1).trans HW1.out)
          clear hb3 c0 c1 c2 c3 c4 c5
          go_wp2_with fail
          go_ret3
          exact ⟨by rw [HRR.out]; rfl, HB3.out⟩
        have dv10 : decide (99 < (b10 : Int)) = false := decide_eq_false (by omega)
        by_cases v11 : b11 ≤ 99
        case neg =>
          have dv11 : decide (99 < (b11 : Int)) = true := decide_eq_true (by omega)
          have HRR := Lib.hid (HNO.out (by rw [HSO.out]; rintro ⟨q1, q2, q3, q4, q5, q6, q7⟩; first | omega | (exact absurd (ok0.symm.trans q4) (by decide))))
          clear q0 z0 HNO HOK HSO v11 v9 v10
          go_wp2_with fail
          with_reducible refine (CZ2.out _).mono ?_
          rintro e w2 ⟨rfl, hw⟩
          subst hw
          go_wp2_with fail
          with_reducible refine (CV.out _).mono ?_
          rintro e w3 ⟨rfl, hb3⟩
          have HB3 := Lib.hid (HBW.out.trans (hb3.mono HBW.out.size))
          have HW3 := Lib.hid ((hb3.block wp0.heap.size (Array.getElem?_eq_some_iff.1 HW1.out).1).trans HW1.out)
          clear hb3 c0 c1 c2 c3 c4 c5
          go_wp2_with fail
          go_ret3
          exact ⟨by rw [HRR.out]; rfl, HB3.out⟩
        have dv11 : decide (99 < (b11 : Int)) = false := decide_eq_false (by omega)
        have HRR := Lib.hid (HOK.out (by rw [HSO.out]; exact ⟨q0, z0.1, z0.2, ok0, v9, v10, v11⟩))
        have CF2 := Lib.hid (fun W => CF.out Z W ok0 z0.1 z0.2)
        clear q0 z0 HNO HOK HSO v9 v10 v11 CF
        generalize Vs.finR ck Z = FR at *
        go_wp2_with fail
        with_reducible refine (CZ2.out _).mono ?_
        rintro e w2 ⟨rfl, hw⟩
        subst hw
        go_wp2_with fail
        with_reducible refine (CV.out _).mono ?_
        rintro e w3 ⟨rfl, hb3⟩
        have HB3 := Lib.hid (HBW.out.trans (hb3.mono HBW.out.size))
        have HW3 := Lib.hid ((hb3.block wp0.heap.size (Array.getElem?_eq_some_iff.1 HW1.out).1).trans HW1.out)
        clear hb3 c0 c1 c2 c3 c4 c5
        have c0 := cell_of_row _ _ 0 _ _ _ HW3.out
        have c1 := cell_of_row _ _ 1 _ _ _ HW3.out
        have c2 := cell_of_row _ _ 2 _ _ _ HW3.out
        have c3 := cell_of_row _ _ 3 _ _ _ HW3.out
        have c4 := cell_of_row _ _ 4 _ _ _ HW3.out
        have c5 := cell_of_row _ _ 5 _ _ _ HW3.out
        simp only [List.getElem?_toArray, List.getElem?_cons_zero, List.getElem?_cons_succ] at c0 c1 c2 c3 c4 c5
        go_wp2_with fail
        with_reducible refine (CF2.out _).mono ?_
        rintro e w4 ⟨rfl, hb4⟩
        have HB4 := Lib.hid (HB3.out.trans (hb4.mono HB3.out.size))
        clear hb4 c0 c1 c2 c3 c4 c5
        go_wp2_with fail
        go_ret3
        exact ⟨by rw [HRR.out]; rfl, HB4.out⟩
end Go.Proofs.YthkppbimkjmbnaaGreatDoor

/-
  Plain: the reference's bodies (parts put into zero bytes one after the other) are the bodies written down; printed by mkput36.py.
-/
namespace Go.Proofs.YthkppbimkjmbnaaGreatDoor
namespace Vs
open Pm (le num at_ le_len num_le num_lt)
def putO (b : List UInt8) (a : Nat) (p : List UInt8) : List UInt8 := b.take a ++ (p ++ b.drop (a + p.length))
theorem hit {q s : List UInt8} {n a m k : Nat} (hs : s.length = m) (hn : n = a + m + k) : putO (z n ++ q) a s = z a ++ (s ++ (z k ++ q)) := by
  subst hs hn
  unfold putO
  have h1 : z (a + s.length + k) = z a ++ (z s.length ++ z k) := by rw [z_add, z_add, Nat.add_assoc]
  rw [h1]
  simp only [List.append_assoc]
  rw [List.take_append_of_le_length (by rw [z_len]; omega), List.take_of_length_le (by rw [z_len]; omega), List.drop_append, List.drop_eq_nil_of_le (by rw [z_len]; omega), List.nil_append, z_len, Nat.add_sub_cancel_left, List.drop_append, List.drop_eq_nil_of_le (by rw [z_len]; omega), z_len, Nat.sub_self, List.nil_append]
  rfl
end Vs
end Go.Proofs.YthkppbimkjmbnaaGreatDoor

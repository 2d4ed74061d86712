/-
  The walks through the reference's Valid, seconds, finish, ReadStamp.
-/
import Derived.Test.YthkppbimkjmbnaaGreatDoorZk
import Derived.Test.YthkppbimkjmbnaaGreatDoorZU
namespace Go.Proofs.YthkppbimkjmbnaaGreatDoor
open Go.RowKit
open Vs (bs by_)

set_option maxHeartbeats 12800000 in
set_option maxRecDepth 100000 in
/-- masterdiscref16.Valid, of a year that is a number of years. -/
theorem r16Valid_any (c : Vs.C) (w : World) (hy0 : 0 ≤ c.y) (hy1 : c.y ≤ 100000) : Calls Tryz.prog 211 #[.agg (Vs.cC c)] w fun e w' => e = .returned (.bool (Vs.okC c)) ∧ Below w.heap.size w w' := by
  have hiff := Vs.okC_iff c
  have HNO := Lib.hid (fun h : ¬ (1900 ≤ c.y ∧ c.y ≤ 2155 ∧ 1 ≤ c.m ∧ c.m ≤ 12 ∧ 1 ≤ c.d ∧ c.d ≤ Vs.mdays c.y c.m ∧ 0 ≤ c.h ∧ c.h ≤ 23 ∧ 0 ≤ c.mi ∧ c.mi ≤ 59 ∧ 0 ≤ c.s ∧ c.s ≤ 59) => (show Vs.okC c = false by rw [Bool.eq_false_iff]; exact fun g => h (hiff.1 g)))
  have HYES := Lib.hid hiff.2
  have CM := Lib.hid (fun W => r16Days_any c.y c.m hy0 hy1 W)
  clear hiff hy0 hy1
  obtain ⟨y, m, d, hh, mi, s⟩ := c
  unfold Vs.cC
  simp only [] at *
  have HB := Lib.hid ((Below.refl w.heap.size w).alloc (Nat.le_refl _) (.cells #[.int .i64 y, .int .i64 m, .int .i64 d, .int .i64 hh, .int .i64 mi, .int .i64 s] 161))
  have hbx := Vs.box_at w ⟨y, m, d, hh, mi, s⟩
  simp only [] at hbx
  have z0 := fun x : Later (w.heap.size + 1) (w.alloc (.cells #[.int .i64 y, .int .i64 m, .int .i64 d, .int .i64 hh, .int .i64 mi, .int .i64 s] 161)) => later_cell x (by omega) (hbx 0)
  have z1 := fun x : Later (w.heap.size + 1) (w.alloc (.cells #[.int .i64 y, .int .i64 m, .int .i64 d, .int .i64 hh, .int .i64 mi, .int .i64 s] 161)) => later_cell x (by omega) (hbx 1)
  have z2 := fun x : Later (w.heap.size + 1) (w.alloc (.cells #[.int .i64 y, .int .i64 m, .int .i64 d, .int .i64 hh, .int .i64 mi, .int .i64 s] 161)) => later_cell x (by omega) (hbx 2)
  have z3 := fun x : Later (w.heap.size + 1) (w.alloc (.cells #[.int .i64 y, .int .i64 m, .int .i64 d, .int .i64 hh, .int .i64 mi, .int .i64 s] 161)) => later_cell x (by omega) (hbx 3)
  have z4 := fun x : Later (w.heap.size + 1) (w.alloc (.cells #[.int .i64 y, .int .i64 m, .int .i64 d, .int .i64 hh, .int .i64 mi, .int .i64 s] 161)) => later_cell x (by omega) (hbx 4)
  have z5 := fun x : Later (w.heap.size + 1) (w.alloc (.cells #[.int .i64 y, .int .i64 m, .int .i64 d, .int .i64 hh, .int .i64 mi, .int .i64 s] 161)) => later_cell x (by omega) (hbx 5)
  have HSZ := Lib.hid (show (w.alloc (.cells #[.int .i64 y, .int .i64 m, .int .i64 d, .int .i64 hh, .int .i64 mi, .int .i64 s] 161)).heap.size = w.heap.size + 1 by simp)
  clear hbx
  generalize Vs.mdays y m = md at *
  by_cases a0 : 1900 ≤ y
  case neg =>
    have d0 : decide (1900 ≤ y) = false := decide_eq_false a0
    rw [HNO.out (by omega)]
    clear HNO HYES a0
    go_enter Tryz.func211, Tryz.ntmps211
    go_wp2_with fail
    refine wp_region_later (w.heap.size + 1) (by kernel_rfl) (by kernel_rfl) ?_
    repeat (any_goals (first | go_big_quiet_skip | (go_big_quiet_want; go_big_quiet_op; first | go_big_quiet_on | (apply Exists.intro; refine ⟨fun _ => ?_, ?_⟩; (with_reducible exact Calls.later_same (CM.out _)); go_big_quiet_on))))
    refine wpQuiet_nil ?_
    intro wq hw'
    obtain ⟨⟨wz, hbq⟩, hw''⟩ := hw'
    subst hw''
    have HBZ := Lib.hid (HB.out.trans (hbq.mono (by omega)))
    clear z0 z1 z2 z3 z4 z5 hbq
    go_wp2_with fail
    go_ret
    exact ⟨rfl, HBZ.out⟩
  have d0 : decide (1900 ≤ y) = true := decide_eq_true a0
  by_cases a1 : y ≤ 2155
  case neg =>
    have d1 : decide (y ≤ 2155) = false := decide_eq_false a1
    rw [HNO.out (by omega)]
    clear HNO HYES a0 a1
    go_enter Tryz.func211, Tryz.ntmps211
    go_wp2_with fail
    refine wp_region_later (w.heap.size + 1) (by kernel_rfl) (by kernel_rfl) ?_
    repeat (any_goals (first | go_big_quiet_skip | (go_big_quiet_want; go_big_quiet_op; first | go_big_quiet_on | (apply Exists.intro; refine ⟨fun _ => ?_, ?_⟩; (with_reducible exact Calls.later_same (CM.out _)); go_big_quiet_on))))
    refine wpQuiet_nil ?_
    intro wq hw'
    obtain ⟨⟨wz, hbq⟩, hw''⟩ := hw'
    subst hw''
    have HBZ := Lib.hid (HB.out.trans (hbq.mono (by omega)))
    clear z0 z1 z2 z3 z4 z5 hbq
    go_wp2_with fail
    go_ret
    exact ⟨rfl, HBZ.out⟩
  have d1 : decide (y ≤ 2155) = true := decide_eq_true a1
  by_cases a2 : 1 ≤ m
  case neg =>
    have d2 : decide (1 ≤ m) = false := decide_eq_false a2
    rw [HNO.out (by omega)]
    clear HNO HYES a0 a1 a2
    go_enter Tryz.func211, Tryz.ntmps211
    go_wp2_with fail
    refine wp_region_later (w.heap.size + 1) (by kernel_rfl) (by kernel_rfl) ?_
    repeat (any_goals (first | go_big_quiet_skip | (go_big_quiet_want; go_big_quiet_op; first | go_big_quiet_on | (apply Exists.intro; refine ⟨fun _ => ?_, ?_⟩; (with_reducible exact Calls.later_same (CM.out _)); go_big_quiet_on))))
    refine wpQuiet_nil ?_
    intro wq hw'
    obtain ⟨⟨wz, hbq⟩, hw''⟩ := hw'
    subst hw''
    have HBZ := Lib.hid (HB.out.trans (hbq.mono (by omega)))
    clear z0 z1 z2 z3 z4 z5 hbq
    go_wp2_with fail
    go_ret
    exact ⟨rfl, HBZ.out⟩
  have d2 : decide (1 ≤ m) = true := decide_eq_true a2
  by_cases a3 : m ≤ 12
  case neg =>
    have d3 : decide (m ≤ 12) = false := decide_eq_false a3
    rw [HNO.out (by omega)]
    clear HNO HYES a0 a1 a2 a3
    go_enter Tryz.func211, Tryz.ntmps211
    go_wp2_with fail
    refine wp_region_later (w.heap.size + 1) (by kernel_rfl) (by kernel_rfl) ?_
    repeat (any_goals (first | go_big_quiet_skip | (go_big_quiet_want; go_big_quiet_op; first | go_big_quiet_on | (apply Exists.intro; refine ⟨fun _ => ?_, ?_⟩; (with_reducible exact Calls.later_same (CM.out _)); go_big_quiet_on))))
    refine wpQuiet_nil ?_
    intro wq hw'
    obtain ⟨⟨wz, hbq⟩, hw''⟩ := hw'
    subst hw''
    have HBZ := Lib.hid (HB.out.trans (hbq.mono (by omega)))
    clear z0 z1 z2 z3 z4 z5 hbq
    go_wp2_with fail
    go_ret
    exact ⟨rfl, HBZ.out⟩
  have d3 : decide (m ≤ 12) = true := decide_eq_true a3
  by_cases a4 : 1 ≤ d
  case neg =>
    have d4 : decide (1 ≤ d) = false := decide_eq_false a4
    rw [HNO.out (by omega)]
    clear HNO HYES a0 a1 a2 a3 a4
    go_enter Tryz.func211, Tryz.ntmps211
    go_wp2_with fail
    refine wp_region_later (w.heap.size + 1) (by kernel_rfl) (by kernel_rfl) ?_
    repeat (any_goals (first | go_big_quiet_skip | (go_big_quiet_want; go_big_quiet_op; first | go_big_quiet_on | (apply Exists.intro; refine ⟨fun _ => ?_, ?_⟩; (with_reducible exact Calls.later_same (CM.out _)); go_big_quiet_on))))
    refine wpQuiet_nil ?_
    intro wq hw'
    obtain ⟨⟨wz, hbq⟩, hw''⟩ := hw'
    subst hw''
    have HBZ := Lib.hid (HB.out.trans (hbq.mono (by omega)))
    clear z0 z1 z2 z3 z4 z5 hbq
    go_wp2_with fail
    go_ret
    exact ⟨rfl, HBZ.out⟩
  have d4 : decide (1 ≤ d) = true := decide_eq_true a4
  by_cases a5 : d ≤ md
  case neg =>
    have d5 : decide (d ≤ md) = false := decide_eq_false a5
    rw [HNO.out (by omega)]
    clear HNO HYES a0 a1 a2 a3 a4 a5
    go_enter Tryz.func211, Tryz.ntmps211
    go_wp2_with fail
    refine wp_region_later (w.heap.size + 1) (by kernel_rfl) (by kernel_rfl) ?_
    repeat (any_goals (first | go_big_quiet_skip | (go_big_quiet_want; go_big_quiet_op; first | go_big_quiet_on | (apply Exists.intro; refine ⟨fun _ => ?_, ?_⟩; (with_reducible exact Calls.later_same (CM.out _)); go_big_quiet_on))))
    refine wpQuiet_nil ?_
    intro wq hw'
    obtain ⟨⟨wz, hbq⟩, hw''⟩ := hw'
    subst hw''
    have HBZ := Lib.hid (HB.out.trans (hbq.mono (by omega)))
    clear z0 z1 z2 z3 z4 z5 hbq
    go_wp2_with fail
    go_ret
    exact ⟨rfl, HBZ.out⟩
  have d5 : decide (d ≤ md) = true := decide_eq_true a5
  by_cases a6 : 0 ≤ hh
  case neg =>
    have d6 : decide (0 ≤ hh) = false := decide_eq_false a6
    rw [HNO.out (by omega)]
    clear HNO HYES a0 a1 a2 a3 a4 a5 a6
    go_enter Tryz.func211, Tryz.ntmps211
    go_wp2_with fail
    refine wp_region_later (w.heap.size + 1) (by kernel_rfl) (by kernel_rfl) ?_
    repeat (any_goals (first | go_big_quiet_skip | (go_big_quiet_want; go_big_quiet_op; first | go_big_quiet_on | (apply Exists.intro; refine ⟨fun _ => ?_, ?_⟩; (with_reducible exact Calls.later_same (CM.out _)); go_big_quiet_on))))
    refine wpQuiet_nil ?_
    intro wq hw'
    obtain ⟨⟨wz, hbq⟩, hw''⟩ := hw'
    subst hw''
    have HBZ := Lib.hid (HB.out.trans (hbq.mono (by omega)))
    clear z0 z1 z2 z3 z4 z5 hbq
    go_wp2_with fail
    go_ret
    exact ⟨rfl, HBZ.out⟩
  have d6 : decide (0 ≤ hh) = true := decide_eq_true a6
  by_cases a7 : hh ≤ 23
  case neg =>
    have d7 : decide (hh ≤ 23) = false := decide_eq_false a7
    rw [HNO.out (by omega)]
    clear HNO HYES a0 a1 a2 a3 a4 a5 a6 a7
    go_enter Tryz.func211, Tryz.ntmps211
    go_wp2_with fail
    refine wp_region_later (w.heap.size + 1) (by kernel_rfl) (by kernel_rfl) ?_
    repeat (any_goals (first | go_big_quiet_skip | (go_big_quiet_want; go_big_quiet_op; first | go_big_quiet_on | (apply Exists.intro; refine ⟨fun _ => ?_, ?_⟩; (with_reducible exact Calls.later_same (CM.out _)); go_big_quiet_on))))
    refine wpQuiet_nil ?_
    intro wq hw'
    obtain ⟨⟨wz, hbq⟩, hw''⟩ := hw'
    subst hw''
    have HBZ := Lib.hid (HB.out.trans (hbq.mono (by omega)))
    clear z0 z1 z2 z3 z4 z5 hbq
    go_wp2_with fail
    go_ret
    exact ⟨rfl, HBZ.out⟩
  have d7 : decide (hh ≤ 23) = true := decide_eq_true a7
  by_cases a8 : 0 ≤ mi
  case neg =>
    have d8 : decide (0 ≤ mi) = false := decide_eq_false a8
    rw [HNO.out (by omega)]
    clear HNO HYES a0 a1 a2 a3 a4 a5 a6 a7 a8
    go_enter Tryz.func211, Tryz.ntmps211
    go_wp2_with fail
    refine wp_region_later (w.heap.size + 1) (by kernel_rfl) (by kernel_rfl) ?_
    repeat (any_goals (first | go_big_quiet_skip | (go_big_quiet_want; go_big_quiet_op; first | go_big_quiet_on | (apply Exists.intro; refine ⟨fun _ => ?_, ?_⟩; (with_reducible exact Calls.later_same (CM.out _)); go_big_quiet_on))))
    refine wpQuiet_nil ?_
    intro wq hw'
    obtain ⟨⟨wz, hbq⟩, hw''⟩ := hw'
    subst hw''
    have HBZ := Lib.hid (HB.out.trans (hbq.mono (by omega)))
    clear z0 z1 z2 z3 z4 z5 hbq
    go_wp2_with fail
    go_ret
    exact ⟨rfl, HBZ.out⟩
  have d8 : decide (0 ≤ mi) = true := decide_eq_true a8
  by_cases a9 : mi ≤ 59
  case neg =>
    have d9 : decide (mi ≤ 59) = false := decide_eq_false a9
    rw [HNO.out (by omega)]
    clear HNO HYES a0 a1 a2 a3 a4 a5 a6 a7 a8 a9
    go_enter Tryz.func211, Tryz.ntmps211
    go_wp2_with fail
    refine wp_region_later (w.heap.size + 1) (by kernel_rfl) (by kernel_rfl) ?_
    repeat (any_goals (first | go_big_quiet_skip | (go_big_quiet_want; go_big_quiet_op; first | go_big_quiet_on | (apply Exists.intro; refine ⟨fun _ => ?_, ?_⟩; (with_reducible exact Calls.later_same (CM.out _)); go_big_quiet_on))))
    refine wpQuiet_nil ?_
    intro wq hw'
    obtain ⟨⟨wz, hbq⟩, hw''⟩ := hw'
    subst hw''
    have HBZ := Lib.hid (HB.out.trans (hbq.mono (by omega)))
    clear z0 z1 z2 z3 z4 z5 hbq
    go_wp2_with fail
    go_ret
    exact ⟨rfl, HBZ.out⟩
  have d9 : decide (mi ≤ 59) = true := decide_eq_true a9
  by_cases a10 : 0 ≤ s
  case neg =>
    have d10 : decide (0 ≤ s) = false := decide_eq_false a10
    rw [HNO.out (by omega)]
    clear HNO HYES a0 a1 a2 a3 a4 a5 a6 a7 a8 a9 a10
    go_enter Tryz.func211, Tryz.ntmps211
    go_wp2_with fail
    refine wp_region_later (w.heap.size + 1) (by kernel_rfl) (by kernel_rfl) ?_
    repeat (any_goals (first | go_big_quiet_skip | (go_big_quiet_want; go_big_quiet_op; first | go_big_quiet_on | (apply Exists.intro; refine ⟨fun _ => ?_, ?_⟩; (with_reducible exact Calls.later_same (CM.out _)); go_big_quiet_on))))
    refine wpQuiet_nil ?_
    intro wq hw'
    obtain ⟨⟨wz, hbq⟩, hw''⟩ := hw'
    subst hw''
    have HBZ := Lib.hid (HB.out.trans (hbq.mono (by omega)))
    clear z0 z1 z2 z3 z4 z5 hbq
    go_wp2_with fail
    go_ret
    exact ⟨rfl, HBZ.out⟩
  have d10 : decide (0 ≤ s) = true := decide_eq_true a10
  by_cases a11 : s ≤ 59
  case neg =>
    have d11 : decide (s ≤ 59) = false := decide_eq_false a11
    rw [HNO.out (by omega)]
    clear HNO HYES a0 a1 a2 a3 a4 a5 a6 a7 a8 a9 a10 a11
    go_enter Tryz.func211, Tryz.ntmps211
    go_wp2_with fail
    refine wp_region_later (w.heap.size + 1) (by kernel_rfl) (by kernel_rfl) ?_
    repeat (any_goals (first | go_big_quiet_skip | (go_big_quiet_want; go_big_quiet_op; first | go_big_quiet_on | (apply Exists.intro; refine ⟨fun _ => ?_, ?_⟩; (with_reducible exact Calls.later_same (CM.out _)); go_big_quiet_on))))
    refine wpQuiet_nil ?_
    intro wq hw'
    obtain ⟨⟨wz, hbq⟩, hw''⟩ := hw'
    subst hw''
    have HBZ := Lib.hid (HB.out.trans (hbq.mono (by omega)))
    clear z0 z1 z2 z3 z4 z5 hbq
    go_wp2_with fail
    go_ret
    exact ⟨rfl, HBZ.out⟩
  have d11 : decide (s ≤ 59) = true := decide_eq_true a11
  rw [HYES.out (by omega)]
  clear HNO HYES a0 a1 a2 a3 a4 a5 a6 a7 a8 a9 a10 a11
  go_enter Tryz.func211, Tryz.ntmps211
  go_wp2_with fail
  refine wp_region_later (w.heap.size + 1) (by kernel_rfl) (by kernel_rfl) ?_
  repeat (any_goals (first | go_big_quiet_skip | (go_big_quiet_want; go_big_quiet_op; first | go_big_quiet_on | (apply Exists.intro; refine ⟨fun _ => ?_, ?_⟩; (with_reducible exact Calls.later_same (CM.out _)); go_big_quiet_on))))
  refine wpQuiet_nil ?_
  intro wq hw'
  obtain ⟨⟨wz, hbq⟩, hw''⟩ := hw'
  subst hw''
  have HBZ := Lib.hid (HB.out.trans (hbq.mono (by omega)))
  clear z0 z1 z2 z3 z4 z5 hbq
  go_wp2_with fail
  go_ret
  exact ⟨rfl, HBZ.out⟩

set_option maxHeartbeats 12800000 in
set_option maxRecDepth 100000 in
/-- masterdiscref16.seconds, of a valid clock. -/
theorem r16Seconds_any (c : Vs.C) (w : World) (hok : Vs.okC c = true) : Calls Tryz.prog 262 #[.agg (Vs.cC c)] w fun e w' => e = .returned (.int .i64 (Vs.secs c)) ∧ Below w.heap.size w w' := by
  obtain ⟨q1, q2, q3, q4, q5, q6, q7, q8, q9, q10, q11, q12⟩ := (Vs.okC_iff c).1 hok
  have hmd := Vs.mdays_bd c.y c.m
  have HSEC := Lib.hid (show Vs.secs c = (c.d - 1 + Vs.msum c.y (c.m - 1).toNat + Vs.yto c.y) * 86400 + c.h * 3600 + c.mi * 60 + c.s from rfl)
  have HX0' := Vs.box_at w c
  obtain ⟨y, m, d, hh, mi, s⟩ := c
  have HX0 := Lib.hid (show ∀ j, (w.alloc (.cells #[.int .i64 y, .int .i64 m, .int .i64 d, .int .i64 hh, .int .i64 mi, .int .i64 s] 161)).cell? ⟨w.heap.size, j, none⟩ = (#[.int .i64 y, .int .i64 m, .int .i64 d, .int .i64 hh, .int .i64 mi, .int .i64 s] : Array Value)[j]? from HX0')
  clear HX0'
  unfold Vs.cC
  simp only [] at *
  have hd : d ≤ 31 := by omega
  have HB := Lib.hid ((Below.refl w.heap.size w).alloc (Nat.le_refl _) (.cells #[.int .i64 y, .int .i64 m, .int .i64 d, .int .i64 hh, .int .i64 mi, .int .i64 s] 161))
  clear hmd q6 hok
  go_enter Tryz.func262, Tryz.ntmps262
  go_wp2_with fail
  generalize hW1 : w.alloc (.cells #[.int .i64 y, .int .i64 m, .int .i64 d, .int .i64 hh, .int .i64 mi, .int .i64 s] 161) = W1 at *
  have c0 := HX0.out 0
  have c1 := HX0.out 1
  have c2 := HX0.out 2
  have c3 := HX0.out 3
  have c4 := HX0.out 4
  have c5 := HX0.out 5
  simp only [List.getElem?_toArray, List.getElem?_cons_zero, List.getElem?_cons_succ] at c0 c1 c2 c3 c4 c5
  clear hW1 HX0
  go_loop [3, 4] (fun dv yv => ∃ n : Nat, yv = .int .i64 (1970 + (n : Int)) ∧ dv = .int .i64 (Vs.ysum 1970 n) ∧ ((n : Int) = 0 ∨ 1970 + (n : Int) ≤ y)) (fun _ yv => (y - intOf yv).toNat)
  case atStart => exact ⟨0, rfl, by simp [Vs.ysum], .inl rfl⟩
  case round =>
    obtain ⟨n, rfl, rfl, hny⟩ := hrel
    have hys := Vs.ysum_bd 1970 n
    by_cases hgo : 1970 + (n : Int) < y
    · have CY := Lib.hid (fun W => r16Year_any (1970 + (n : Int)) (by omega) (by omega) W)
      have hyb := Vs.ydays_bd (1970 + (n : Int))
      have HN := Lib.hid (show Vs.ysum 1970 (n + 1) = Vs.ysum 1970 n + Vs.ydays (1970 + (n : Int)) from rfl)
      generalize Vs.ydays (1970 + (n : Int)) = yd at *
      generalize Vs.ysum 1970 n = ys at *
      go_wp2_with fail
      with_reducible refine (CY.out _).mono ?_
      rintro e w2 ⟨rfl, hw2⟩
      subst hw2
      go_wp2_with fail
      go_round
      case rel => exact ⟨n + 1, by first | rfl | exact congrArg (Value.int .i64) (by omega), by rw [HN.out], by omega⟩
      case measure => simp [intOf]; omega
    · have hD1b : 0 ≤ Vs.ysum 1970 n ∧ Vs.ysum 1970 n ≤ 100000 := by omega
      generalize hD1 : Vs.ysum 1970 n = D1 at hD1b ⊢
      have HD1 := Lib.hid hD1
      have HNY := Lib.hid (show (n : Int) = 0 ∨ 1970 + (n : Int) ≤ y from hny)
      have HNG := Lib.hid (show ¬ (1970 + (n : Int) < y) from hgo)
      clear hys hD1 hny
      go_wp2_with fail
      clear hgo
      go_loop [3, 5] (fun dv yv => ∃ p : Nat, yv = .int .i64 (y + (p : Int)) ∧ dv = .int .i64 (D1 - Vs.ysum y p) ∧ ((p : Int) = 0 ∨ y + (p : Int) ≤ 1970)) (fun _ yv => (1970 - intOf yv).toNat)
      case atStart => exact ⟨0, by simp, by simp [Vs.ysum], .inl rfl⟩
      case round =>
        obtain ⟨p, rfl, rfl, hpy⟩ := hrel
        have hys := Vs.ysum_bd y p
        by_cases hgo3 : y + (p : Int) < 1970
        · have CY := Lib.hid (fun W => r16Year_any (y + (p : Int)) (by omega) (by omega) W)
          have hyb := Vs.ydays_bd (y + (p : Int))
          have HN := Lib.hid (show Vs.ysum y (p + 1) = Vs.ysum y p + Vs.ydays (y + (p : Int)) from rfl)
          generalize Vs.ydays (y + (p : Int)) = yd at *
          generalize Vs.ysum y p = ys at *
          go_wp2_with fail
          with_reducible refine (CY.out _).mono ?_
          rintro e w2 ⟨rfl, hw2⟩
          subst hw2
          go_wp2_with fail
          go_round
          case rel => exact ⟨p + 1, by first | rfl | exact congrArg (Value.int .i64) (by omega), by rw [HN.out]; exact congrArg (Value.int .i64) (by omega), by omega⟩
          case measure => simp [intOf]; omega
        · have HE := Lib.hid (show D1 - Vs.ysum y p = Vs.yto y from by
            have hd1 := HD1.out
            have hn1 := HNY.out
            unfold Vs.yto
            by_cases hy : y < 1970
            · rw [if_pos hy]
              have hn0 : n = 0 := by omega
              subst hn0
              have e0 : Vs.ysum 1970 0 = 0 := rfl
              have hp : (1970 - y).toNat = p := by omega
              rw [hp]
              omega
            · rw [if_neg hy]
              have hp0 : p = 0 := by omega
              subst hp0
              have e0 : Vs.ysum y 0 = 0 := rfl
              have hn2 : (y - 1970).toNat = n := by have := HNG.out; omega
              rw [hn2]
              omega)
          have hD2b : -100000 ≤ D1 - Vs.ysum y p ∧ D1 - Vs.ysum y p ≤ 100000 := by omega
          generalize hD2 : D1 - Vs.ysum y p = D2 at hD2b HE ⊢
          clear hys hD2 HNY HD1 HNG hpy hD1b
          go_wp2_with fail
          clear hgo3
          go_loop [3, 6] (fun dv mv => ∃ k : Nat, mv = .int .i64 ((k : Int) + 1) ∧ dv = .int .i64 (D2 + Vs.msum y k) ∧ (k : Int) + 1 ≤ m) (fun _ mv => (m - intOf mv).toNat)
          case atStart => exact ⟨0, rfl, by simp [Vs.msum], by omega⟩
          case round =>
            obtain ⟨k, rfl, rfl, hkm⟩ := hrel
            have hms := Vs.msum_bd y k
            by_cases hgo : (k : Int) + 1 < m
            · have CM := Lib.hid (fun W => r16Days_any y ((k : Int) + 1) (by omega) (by omega) W)
              have hmd := Vs.mdays_bd y ((k : Int) + 1)
              have HN := Lib.hid (show Vs.msum y (k + 1) = Vs.msum y k + Vs.mdays y ((k : Int) + 1) from rfl)
              generalize Vs.mdays y ((k : Int) + 1) = md at *
              generalize Vs.msum y k = ms at *
              go_wp2_with fail
              with_reducible refine (CM.out _).mono ?_
              rintro e w2 ⟨rfl, hw2⟩
              subst hw2
              go_wp2_with fail
              go_round
              case rel => exact ⟨k + 1, by go_num, by rw [HN.out, ← Int.add_assoc], by omega⟩
              case measure => simp [intOf]; omega
            · have hkm2 : (m - 1).toNat = k := by omega
              have hDb : -100000 ≤ D2 + Vs.msum y k ∧ D2 + Vs.msum y k ≤ 110000 := by omega
              have HR := Lib.hid (show (D2 + Vs.msum y k + d - 1) * 86400 + hh * 3600 + mi * 60 + s = Vs.secs ⟨y, m, d, hh, mi, s⟩ from by
                have h1 := HSEC.out
                have h2 := HE.out
                rw [hkm2] at h1
                rw [h1]
                omega)
              generalize D2 + Vs.msum y k = D3 at *
              clear hkm2 HSEC HE hms hD2b
              go_wp2_with fail
              go_ret
              rw [HR.out]
              exact ⟨rfl, HB.out⟩

namespace Vs
/-- What finish returns. -/
def finR (c : C) (zone : Int) : (Int × Int) × Int := if isTime (secs c - 60 * zone) = true then ((secs c - 60 * zone, zone), 0) else ((0, 0), 2)
end Vs

set_option maxHeartbeats 3200000 in
set_option maxRecDepth 100000 in
/-- masterdiscref16.finish. -/
theorem r16Finish_any (c : Vs.C) (zone : Int) (w : World) (hok : Vs.okC c = true) (h1 : -1440 ≤ zone) (h2 : zone ≤ 1440) : Calls Tryz.prog 212 #[.agg (Vs.cC c), .int .i64 zone] w fun e w' => e = .returned (.tuple #[.int .i64 (Vs.finR c zone).1.1, .int .i64 (Vs.finR c zone).1.2, .int .i64 (Vs.finR c zone).2]) ∧ Below w.heap.size w w' := by
  have CS := Lib.hid (fun W => r16Seconds_any c W hok)
  have hb := Vs.secs_bd hok
  have HR := Lib.hid (show Vs.finR c zone = if Vs.isTime (Vs.secs c - 60 * zone) = true then ((Vs.secs c - 60 * zone, zone), 0) else ((0, 0), 2) from rfl)
  have CT := Lib.hid (fun W => r16Time_any (Vs.secs c - 60 * zone) W)
  have HB := Lib.hid ((Below.refl w.heap.size w).alloc (Nat.le_refl _) (.cells (Vs.cC c) 161))
  have HN := Lib.hid (heap_alloc_new w (.cells (Vs.cC c) 161))
  generalize Vs.secs c = T at *
  generalize Vs.finR c zone = FR at *
  obtain ⟨y, m, d, hh, mi, s⟩ := c
  unfold Vs.cC at *
  simp only [] at *
  clear hok
  have hE : IntKind.i64.wrap (T - 60 * zone) = T - 60 * zone := IntWalk.i64_in _ (by omega)
  obtain ⟨N, hNN⟩ : ∃ N, T - 60 * zone = N := ⟨_, rfl⟩
  have c0 := cell_of_row _ _ 0 _ _ _ HN.out
  have c1 := cell_of_row _ _ 1 _ _ _ HN.out
  have c2 := cell_of_row _ _ 2 _ _ _ HN.out
  have c3 := cell_of_row _ _ 3 _ _ _ HN.out
  have c4 := cell_of_row _ _ 4 _ _ _ HN.out
  have c5 := cell_of_row _ _ 5 _ _ _ HN.out
  simp only [List.getElem?_toArray, List.getElem?_cons_zero, List.getElem?_cons_succ] at c0 c1 c2 c3 c4 c5
  rw [hNN] at HR CT hE
  cases ht : Vs.isTime N with
  | true =>
    rw [ht] at CT HR
    have HR2 := Lib.hid (HR.out.trans (if_pos rfl))
    rw [HR2.out]
    clear HR HR2 ht
    go_enter Tryz.func212, Tryz.ntmps212
    go_wp2_with fail
    with_reducible refine (CS.out _).mono ?_
    rintro e w2 ⟨rfl, hb2⟩
    have HB2 := Lib.hid (HB.out.trans (hb2.mono HB.out.size))
    clear hb2 c0 c1 c2 c3 c4 c5
    go_wp2_with fail
    try rw [hNN]
    with_reducible refine (CT.out _).mono ?_
    rintro e w3 ⟨rfl, hw⟩
    subst hw
    go_wp2_with fail
    go_ret3
    exact ⟨rfl, HB2.out⟩
  | false =>
    rw [ht] at CT HR
    have HR2 := Lib.hid (HR.out.trans (if_neg (by decide)))
    rw [HR2.out]
    clear HR HR2 ht
    go_enter Tryz.func212, Tryz.ntmps212
    go_wp2_with fail
    with_reducible refine (CS.out _).mono ?_
    rintro e w2 ⟨rfl, hb2⟩
    have HB2 := Lib.hid (HB.out.trans (hb2.mono HB.out.size))
    clear hb2 c0 c1 c2 c3 c4 c5
    go_wp2_with fail
    try rw [hNN]
    with_reducible refine (CT.out _).mono ?_
    rintro e w3 ⟨rfl, hw⟩
    subst hw
    go_wp2_with fail
    go_ret3
    exact ⟨rfl, HB2.out⟩
end Go.Proofs.YthkppbimkjmbnaaGreatDoor

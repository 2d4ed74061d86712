/-
  The walks through datetime.valid, seconds, Join, read.
-/
import Derived.Test.YthkppbimkjmbnaaGreatDoorZI
import Derived.Test.YthkppbimkjmbnaaGreatDoorZy
import Derived.IntWalk
namespace Go.Proofs.YthkppbimkjmbnaaGreatDoor
open Go.RowKit

set_option maxHeartbeats 1600000 in
set_option maxRecDepth 100000 in
/-- Between 0 and a number. -/
theorem in_any (n m : Int) (w : World) : Calls Tryz.prog 266 #[.int .i64 n, .int .i64 m] w fun e w' => e = .returned (.bool (decide (0 ≤ n) && decide (n ≤ m))) ∧ w = w' := by
  by_cases h1 : 0 ≤ n <;> by_cases h2 : n ≤ m
  all_goals
    first | rw [decide_eq_true h1] | rw [decide_eq_false h1]
    first | rw [decide_eq_true h2] | rw [decide_eq_false h2]
    go_enter Tryz.func266, Tryz.ntmps266
    go_wp2
    go_ret
    exact ⟨rfl, rfl⟩

namespace Vs
/-- A box of a clock. -/
abbrev boxC (w : World) (c : C) : World := w.alloc (.cells #[.int .i64 c.y, .int .i64 c.m, .int .i64 c.d, .int .i64 c.h, .int .i64 c.mi, .int .i64 c.s] 161)
theorem box_at (w : World) (c : C) (j : Nat) : (boxC w c).cell? ⟨w.heap.size, j, none⟩ = (#[.int .i64 c.y, .int .i64 c.m, .int .i64 c.d, .int .i64 c.h, .int .i64 c.mi, .int .i64 c.s] : Array Value)[j]? := cell_of_row _ _ _ _ _ _ (heap_alloc_new w _)
end Vs

set_option maxHeartbeats 12800000 in
set_option maxRecDepth 100000 in
/-- datetime.valid. -/
theorem valid_any (c : Vs.C) (w : World) : Calls Tryz.prog 219 #[.agg (Vs.cC c)] w fun e w' => e = .returned (.bool (Vs.okC c)) ∧ Below w.heap.size w w' := by
  have hiff := Vs.okC_iff c
  have HNO := Lib.hid (fun h : ¬ (1900 ≤ c.y ∧ c.y ≤ 2155 ∧ 1 ≤ c.m ∧ c.m ≤ 12 ∧ 1 ≤ c.d ∧ c.d ≤ Vs.mdays c.y c.m ∧ 0 ≤ c.h ∧ c.h ≤ 23 ∧ 0 ≤ c.mi ∧ c.mi ≤ 59 ∧ 0 ≤ c.s ∧ c.s ≤ 59) => (show Vs.okC c = false by rw [Bool.eq_false_iff]; exact fun g => h (hiff.1 g)))
  have HYES := Lib.hid hiff.2
  clear hiff
  obtain ⟨y, m, d, hh, mi, s⟩ := c
  unfold Vs.cC
  simp only [] at *
  have HB := Lib.hid ((Below.refl w.heap.size w).alloc (Nat.le_refl _) (.cells #[.int .i64 y, .int .i64 m, .int .i64 d, .int .i64 hh, .int .i64 mi, .int .i64 s] 161))
  have hbx := Vs.box_at w ⟨y, m, d, hh, mi, s⟩
  simp only [] at hbx
  have HX := Lib.hid hbx
  clear hbx
  by_cases a1 : y < 1900
  · have HR := Lib.hid (HNO.out (by omega))
    rw [HR.out]
    clear HR HNO HYES HX
    go_enter Tryz.func219, Tryz.ntmps219
    go_wp2_with fail
    go_ret
    exact ⟨rfl, HB.out⟩
  by_cases a2 : 2155 < y
  · have HR := Lib.hid (HNO.out (by omega))
    rw [HR.out]
    clear HR HNO HYES HX
    go_enter Tryz.func219, Tryz.ntmps219
    go_wp2_with fail
    go_ret
    exact ⟨rfl, HB.out⟩
  by_cases a3 : m < 1
  · have HR := Lib.hid (HNO.out (by omega))
    rw [HR.out]
    clear HR HNO HYES HX
    go_enter Tryz.func219, Tryz.ntmps219
    go_wp2_with fail
    go_ret
    exact ⟨rfl, HB.out⟩
  by_cases a4 : 12 < m
  · have HR := Lib.hid (HNO.out (by omega))
    rw [HR.out]
    clear HR HNO HYES HX
    go_enter Tryz.func219, Tryz.ntmps219
    go_wp2_with fail
    go_ret
    exact ⟨rfl, HB.out⟩
  have CM := Lib.hid (fun W => monthDays_any y m (by omega) (by omega) (by omega) (by omega) W)
  have C1 := Lib.hid (fun W => in_any hh 23 W)
  have C2 := Lib.hid (fun W => in_any mi 59 W)
  have C3 := Lib.hid (fun W => in_any s 59 W)
  have z0 := fun x : Later (w.heap.size + 1) (w.alloc (.cells #[.int .i64 y, .int .i64 m, .int .i64 d, .int .i64 hh, .int .i64 mi, .int .i64 s] 161)) => later_cell x (by omega) (HX.out 0)
  have z1 := fun x : Later (w.heap.size + 1) (w.alloc (.cells #[.int .i64 y, .int .i64 m, .int .i64 d, .int .i64 hh, .int .i64 mi, .int .i64 s] 161)) => later_cell x (by omega) (HX.out 1)
  have z2 := fun x : Later (w.heap.size + 1) (w.alloc (.cells #[.int .i64 y, .int .i64 m, .int .i64 d, .int .i64 hh, .int .i64 mi, .int .i64 s] 161)) => later_cell x (by omega) (HX.out 2)
  have z3 := fun x : Later (w.heap.size + 1) (w.alloc (.cells #[.int .i64 y, .int .i64 m, .int .i64 d, .int .i64 hh, .int .i64 mi, .int .i64 s] 161)) => later_cell x (by omega) (HX.out 3)
  have z4 := fun x : Later (w.heap.size + 1) (w.alloc (.cells #[.int .i64 y, .int .i64 m, .int .i64 d, .int .i64 hh, .int .i64 mi, .int .i64 s] 161)) => later_cell x (by omega) (HX.out 4)
  have z5 := fun x : Later (w.heap.size + 1) (w.alloc (.cells #[.int .i64 y, .int .i64 m, .int .i64 d, .int .i64 hh, .int .i64 mi, .int .i64 s] 161)) => later_cell x (by omega) (HX.out 5)
  have hsz : (w.alloc (.cells #[.int .i64 y, .int .i64 m, .int .i64 d, .int .i64 hh, .int .i64 mi, .int .i64 s] 161)).heap.size = w.heap.size + 1 := by simp
  have HSZ := Lib.hid hsz
  clear hsz
  have hres : ∀ b : Bool, (b = true ↔ 1 ≤ d ∧ d ≤ Vs.mdays y m ∧ 0 ≤ hh ∧ hh ≤ 23 ∧ 0 ≤ mi ∧ mi ≤ 59 ∧ 0 ≤ s ∧ s ≤ 59) → Vs.okC ⟨y, m, d, hh, mi, s⟩ = b := fun b hb => by
    cases b with
    | true =>
      have := hb.1 rfl
      exact HYES.out (by omega)
    | false => exact HNO.out (fun g => by
        have := hb.2 (by omega)
        cases this)
  have HRES := Lib.hid hres
  clear hres HNO HYES
  generalize Vs.mdays y m = md at *
  by_cases b1 : 1 ≤ d
  case neg =>
    have hd : decide (1 ≤ d) = false := decide_eq_false b1
    rw [HRES.out false ⟨(fun h => by cases h), fun h => by omega⟩]
    clear b1 HRES
    go_enter Tryz.func219, Tryz.ntmps219
    go_wp2_with fail
    refine wp_region_later (w.heap.size + 1) (by kernel_rfl) (by kernel_rfl) ?_
    repeat (any_goals (first | go_big_quiet_skip | (go_big_quiet_want; go_big_quiet_op; first | go_big_quiet_on | (apply Exists.intro; refine ⟨fun _ => ?_, ?_⟩; (first | (with_reducible refine Calls.later_of ?_ (CM.out _); simp) | (with_reducible exact Calls.later_same (C1.out _)) | (with_reducible exact Calls.later_same (C2.out _)) | (with_reducible exact Calls.later_same (C3.out _))); go_big_quiet_on))))
    refine wpQuiet_nil ?_
    intro wq hw'
    obtain ⟨⟨wz, hbq⟩, hw''⟩ := hw'
    subst hw''
    have HBZ := Lib.hid (HB.out.trans (hbq.mono (by omega)))
    clear z0 z1 z2 z3 z4 z5 hbq
    go_wp2_with fail
    go_ret
    exact ⟨rfl, HBZ.out⟩
  have e1 : decide (1 ≤ d) = true := decide_eq_true b1
  by_cases b2 : d ≤ md
  case neg =>
    have e2 : decide (d ≤ md) = false := decide_eq_false b2
    rw [HRES.out false ⟨(fun h => by cases h), fun h => by omega⟩]
    clear b1 b2 HRES
    go_enter Tryz.func219, Tryz.ntmps219
    go_wp2_with fail
    refine wp_region_later (w.heap.size + 1) (by kernel_rfl) (by kernel_rfl) ?_
    repeat (any_goals (first | go_big_quiet_skip | (go_big_quiet_want; go_big_quiet_op; first | go_big_quiet_on | (apply Exists.intro; refine ⟨fun _ => ?_, ?_⟩; (first | (with_reducible refine Calls.later_of ?_ (CM.out _); simp) | (with_reducible exact Calls.later_same (C1.out _)) | (with_reducible exact Calls.later_same (C2.out _)) | (with_reducible exact Calls.later_same (C3.out _))); go_big_quiet_on))))
    refine wpQuiet_nil ?_
    intro wq hw'
    obtain ⟨⟨wz, hbq⟩, hw''⟩ := hw'
    subst hw''
    have HBZ := Lib.hid (HB.out.trans (hbq.mono (by omega)))
    clear z0 z1 z2 z3 z4 z5 hbq
    go_wp2_with fail
    go_ret
    exact ⟨rfl, HBZ.out⟩
  have e2 : decide (d ≤ md) = true := decide_eq_true b2
  have hq : ∀ b : Bool, (b = true ↔ ((decide (0 ≤ hh) && decide (hh ≤ 23)) = true ∧ (decide (0 ≤ mi) && decide (mi ≤ 59)) = true ∧ (decide (0 ≤ s) && decide (s ≤ 59)) = true)) → Vs.okC ⟨y, m, d, hh, mi, s⟩ = b := fun b hb => by
    refine HRES.out b (hb.trans ?_)
    rw [Bool.and_eq_true, Bool.and_eq_true, Bool.and_eq_true, decide_eq_true_eq, decide_eq_true_eq, decide_eq_true_eq, decide_eq_true_eq, decide_eq_true_eq, decide_eq_true_eq]
    omega
  have HQ := Lib.hid hq
  clear hq HRES b1 b2
  generalize (decide (0 ≤ hh) && decide (hh ≤ 23)) = q1 at *
  generalize (decide (0 ≤ mi) && decide (mi ≤ 59)) = q2 at *
  generalize (decide (0 ≤ s) && decide (s ≤ 59)) = q3 at *
  cases q1 with
  | false =>
    rw [HQ.out false ⟨(fun h => by cases h), fun h => by cases h.1⟩]
    clear HQ
    go_enter Tryz.func219, Tryz.ntmps219
    go_wp2_with fail
    refine wp_region_later (w.heap.size + 1) (by kernel_rfl) (by kernel_rfl) ?_
    repeat (any_goals (first | go_big_quiet_skip | (go_big_quiet_want; go_big_quiet_op; first | go_big_quiet_on | (apply Exists.intro; refine ⟨fun _ => ?_, ?_⟩; (first | (with_reducible refine Calls.later_of ?_ (CM.out _); simp) | (with_reducible exact Calls.later_same (C1.out _)) | (with_reducible exact Calls.later_same (C2.out _)) | (with_reducible exact Calls.later_same (C3.out _))); go_big_quiet_on))))
    refine wpQuiet_nil ?_
    intro wq hw'
    obtain ⟨⟨wz, hbq⟩, hw''⟩ := hw'
    subst hw''
    have HBZ := Lib.hid (HB.out.trans (hbq.mono (by omega)))
    clear z0 z1 z2 z3 z4 z5 hbq
    go_wp2_with fail
    go_ret
    exact ⟨rfl, HBZ.out⟩
  | true =>
  cases q2 with
  | false =>
    rw [HQ.out false ⟨(fun h => by cases h), fun h => by cases h.2.1⟩]
    clear HQ
    go_enter Tryz.func219, Tryz.ntmps219
    go_wp2_with fail
    refine wp_region_later (w.heap.size + 1) (by kernel_rfl) (by kernel_rfl) ?_
    repeat (any_goals (first | go_big_quiet_skip | (go_big_quiet_want; go_big_quiet_op; first | go_big_quiet_on | (apply Exists.intro; refine ⟨fun _ => ?_, ?_⟩; (first | (with_reducible refine Calls.later_of ?_ (CM.out _); simp) | (with_reducible exact Calls.later_same (C1.out _)) | (with_reducible exact Calls.later_same (C2.out _)) | (with_reducible exact Calls.later_same (C3.out _))); go_big_quiet_on))))
    refine wpQuiet_nil ?_
    intro wq hw'
    obtain ⟨⟨wz, hbq⟩, hw''⟩ := hw'
    subst hw''
    have HBZ := Lib.hid (HB.out.trans (hbq.mono (by omega)))
    clear z0 z1 z2 z3 z4 z5 hbq
    go_wp2_with fail
    go_ret
    exact ⟨rfl, HBZ.out⟩
  | true =>
  cases q3 with
  | false =>
    rw [HQ.out false ⟨(fun h => by cases h), fun h => by cases h.2.2⟩]
    clear HQ
    go_enter Tryz.func219, Tryz.ntmps219
    go_wp2_with fail
    refine wp_region_later (w.heap.size + 1) (by kernel_rfl) (by kernel_rfl) ?_
    repeat (any_goals (first | go_big_quiet_skip | (go_big_quiet_want; go_big_quiet_op; first | go_big_quiet_on | (apply Exists.intro; refine ⟨fun _ => ?_, ?_⟩; (first | (with_reducible refine Calls.later_of ?_ (CM.out _); simp) | (with_reducible exact Calls.later_same (C1.out _)) | (with_reducible exact Calls.later_same (C2.out _)) | (with_reducible exact Calls.later_same (C3.out _))); go_big_quiet_on))))
    refine wpQuiet_nil ?_
    intro wq hw'
    obtain ⟨⟨wz, hbq⟩, hw''⟩ := hw'
    subst hw''
    have HBZ := Lib.hid (HB.out.trans (hbq.mono (by omega)))
    clear z0 z1 z2 z3 z4 z5 hbq
    go_wp2_with fail
    go_ret
    exact ⟨rfl, HBZ.out⟩
  | true =>
    rw [HQ.out true ⟨(fun _ => ⟨rfl, rfl, rfl⟩), fun _ => rfl⟩]
    clear HQ
    go_enter Tryz.func219, Tryz.ntmps219
    go_wp2_with fail
    refine wp_region_later (w.heap.size + 1) (by kernel_rfl) (by kernel_rfl) ?_
    repeat (any_goals (first | go_big_quiet_skip | (go_big_quiet_want; go_big_quiet_op; first | go_big_quiet_on | (apply Exists.intro; refine ⟨fun _ => ?_, ?_⟩; (first | (with_reducible refine Calls.later_of ?_ (CM.out _); simp) | (with_reducible exact Calls.later_same (C1.out _)) | (with_reducible exact Calls.later_same (C2.out _)) | (with_reducible exact Calls.later_same (C3.out _))); go_big_quiet_on))))
    refine wpQuiet_nil ?_
    intro wq hw'
    obtain ⟨⟨wz, hbq⟩, hw''⟩ := hw'
    subst hw''
    have HBZ := Lib.hid (HB.out.trans (hbq.mono (by omega)))
    clear z0 z1 z2 z3 z4 z5 hbq
    go_wp2_with fail
    go_ret
    exact ⟨rfl, HBZ.out⟩
end Go.Proofs.YthkppbimkjmbnaaGreatDoor

/-
  The walks through datetime: leap, yearDays, monthDays, isTime, isZone, Split and Stamp in the zone 0.
-/
import Derived.Test.YthkppbimkjmbnaaGreatDoorZD
import Derived.Test.YthkppbimkjmbnaaGreatDoorZA
import Derived.Laws.IdiomStrings
namespace Go.Proofs.YthkppbimkjmbnaaGreatDoor
open Go.RowKit

set_option maxHeartbeats 3200000 in
set_option maxRecDepth 100000 in
/-- datetime.leap. -/
theorem leap_any (y : Int) (h0 : 0 ≤ y) (h1 : y ≤ 100000) (w : World) : Calls Tryz.prog 275 #[.int .i64 y] w fun e w' => e = .returned (.bool (Vs.leap y)) ∧ w = w' := by
  unfold Vs.leap
  by_cases a : y % 400 = 0
  · have e1 : (y % 400 == 0) = true := by rw [beq_iff_eq]; exact a
    rw [decide_eq_true a]
    clear a
    go_enter Tryz.func275, Tryz.ntmps275
    go_wp2_with fail
    go_ret
    exact ⟨rfl, rfl⟩
  have e1 : (y % 400 == 0) = false := by rw [beq_eq_false_iff_ne]; exact a
  rw [decide_eq_false a]
  clear a
  by_cases b : y % 4 = 0
  · have e2 : (y % 4 == 0) = true := by rw [beq_iff_eq]; exact b
    rw [decide_eq_true b]
    clear b
    by_cases c : y % 100 = 0
    · have e3 : (y % 100 != 0) = false := by rw [c]; rfl
      rw [decide_eq_true c]
      clear c
      go_enter Tryz.func275, Tryz.ntmps275
      go_wp2_with fail
      go_ret
      exact ⟨rfl, rfl⟩
    · have e3 : (y % 100 != 0) = true := by rw [bne_iff_ne]; exact c
      rw [decide_eq_false c]
      clear c
      go_enter Tryz.func275, Tryz.ntmps275
      go_wp2_with fail
      go_ret
      exact ⟨rfl, rfl⟩
  · have e2 : (y % 4 == 0) = false := by rw [beq_eq_false_iff_ne]; exact b
    rw [decide_eq_false b]
    clear b
    go_enter Tryz.func275, Tryz.ntmps275
    go_wp2_with fail
    go_ret
    exact ⟨rfl, rfl⟩

set_option maxHeartbeats 1600000 in
set_option maxRecDepth 100000 in
/-- datetime.yearDays. -/
theorem yearDays_any (y : Int) (h0 : 0 ≤ y) (h1 : y ≤ 100000) (w : World) : Calls Tryz.prog 248 #[.int .i64 y] w fun e w' => e = .returned (.int .i64 (Vs.ydays y)) ∧ w = w' := by
  have CL := Lib.hid (fun W => leap_any y h0 h1 W)
  unfold Vs.ydays
  cases hl : Vs.leap y with
  | true =>
    rw [hl] at CL
    rw [if_pos rfl]
    clear hl
    go_enter Tryz.func248, Tryz.ntmps248
    go_wp2_with fail
    with_reducible refine (CL.out _).mono ?_
    rintro e w2 ⟨rfl, rfl⟩
    go_wp2_with fail
    go_ret
    exact ⟨rfl, rfl⟩
  | false =>
    rw [hl] at CL
    rw [if_neg (by decide)]
    clear hl
    go_enter Tryz.func248, Tryz.ntmps248
    go_wp2_with fail
    with_reducible refine (CL.out _).mono ?_
    rintro e w2 ⟨rfl, rfl⟩
    go_wp2_with fail
    go_ret
    exact ⟨rfl, rfl⟩

set_option maxHeartbeats 6400000 in
set_option maxRecDepth 100000 in
/-- datetime.monthDays. -/
theorem monthDays_any (y m : Int) (h0 : 0 ≤ y) (h1 : y ≤ 100000) (h2 : 1 ≤ m) (h3 : m ≤ 12) (w : World) : Calls Tryz.prog 249 #[.int .i64 y, .int .i64 m] w fun e w' => e = .returned (.int .i64 (Vs.mdays y m)) ∧ Below w.heap.size w w' := by
  have CL := Lib.hid (fun W => leap_any y h0 h1 W)
  have hm : m = 2 ∨ m = 1 ∨ m = 3 ∨ m = 4 ∨ m = 5 ∨ m = 6 ∨ m = 7 ∨ m = 8 ∨ m = 9 ∨ m = 10 ∨ m = 11 ∨ m = 12 := by omega
  clear h2 h3
  rcases hm with rfl | hm
  · cases hl : Vs.leap y with
    | true =>
      have HR := Lib.hid (show Vs.mdays y 2 = 29 by unfold Vs.mdays; rw [hl]; rfl)
      rw [hl] at CL
      rw [HR.out]
      clear hl HR
      go_enter Tryz.func249, Tryz.ntmps249
      go_wp2_with fail
      with_reducible refine (CL.out _).mono ?_
      rintro e w2 ⟨rfl, rfl⟩
      go_wp2_with fail
      go_ret
      exact ⟨rfl, (Below.refl _ _).alloc (Nat.le_refl _) _⟩
    | false =>
      have HR := Lib.hid (show Vs.mdays y 2 = 28 by unfold Vs.mdays; rw [hl]; rfl)
      rw [hl] at CL
      rw [HR.out]
      clear hl HR
      go_enter Tryz.func249, Tryz.ntmps249
      go_wp2_with fail
      with_reducible refine (CL.out _).mono ?_
      rintro e w2 ⟨rfl, rfl⟩
      go_wp2_with fail
      go_ret
      exact ⟨rfl, (Below.refl _ _).alloc (Nat.le_refl _) _⟩
  · rcases hm with rfl | rfl | rfl | rfl | rfl | rfl | rfl | rfl | rfl | rfl | rfl
    all_goals
      clear CL
      go_enter Tryz.func249, Tryz.ntmps249
      go_wp2_with fail
      go_ret
      exact ⟨rfl, (Below.refl _ _).alloc (Nat.le_refl _) _⟩

set_option maxHeartbeats 1600000 in
set_option maxRecDepth 100000 in
/-- datetime.isTime. -/
theorem isTime_any (t : Int) (w : World) : Calls Tryz.prog 247 #[.int .i64 t] w fun e w' => e = .returned (.bool (Vs.isTime t)) ∧ w = w' := by
  unfold Vs.isTime
  by_cases h1 : 315532800 ≤ t <;> by_cases h2 : t ≤ 4102444799
  all_goals
    first | rw [decide_eq_true h1] | rw [decide_eq_false h1]
    first | rw [decide_eq_true h2] | rw [decide_eq_false h2]
    go_enter Tryz.func247, Tryz.ntmps247
    go_wp2
    go_ret
    exact ⟨rfl, rfl⟩

set_option maxHeartbeats 1600000 in
set_option maxRecDepth 100000 in
/-- datetime.isZone. -/
theorem isZone_any (t : Int) (w : World) : Calls Tryz.prog 158 #[.int .i64 t] w fun e w' => e = .returned (.bool (decide (-1440 ≤ t) && decide (t ≤ 1440))) ∧ w = w' := by
  by_cases h1 : -1440 ≤ t <;> by_cases h2 : t ≤ 1440
  all_goals
    first | rw [decide_eq_true h1] | rw [decide_eq_false h1]
    first | rw [decide_eq_true h2] | rw [decide_eq_false h2]
    go_enter Tryz.func158, Tryz.ntmps158
    go_wp2
    go_ret
    exact ⟨rfl, rfl⟩
end Go.Proofs.YthkppbimkjmbnaaGreatDoor

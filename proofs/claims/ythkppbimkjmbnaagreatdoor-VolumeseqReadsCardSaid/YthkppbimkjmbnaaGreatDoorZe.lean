/-
  The long region of the law's awake: its gates, its orders.
-/
import Derived.Test.YthkppbimkjmbnaaGreatDoorZd
namespace Go.Proofs.YthkppbimkjmbnaaGreatDoor
/-- awake's long region: its gates, its orders. -/
noncomputable def awOps : Array Oper := Sg.opsOf Tryz.f11 6
theorem aw_back : Sg.back awOps = true := by kernel_rfl
theorem aw_sz : awOps.size = 75 + 1 := by kernel_rfl
theorem aw_g17 : Sg.gate awOps 17 = true := by kernel_rfl
theorem aw_lt17 : 17 < awOps.size := by rw [aw_sz]; decide
theorem aw_g21 : Sg.gate awOps 21 = true := by kernel_rfl
theorem aw_lt21 : 21 < awOps.size := by rw [aw_sz]; decide
theorem aw_g23 : Sg.gate awOps 23 = true := by kernel_rfl
theorem aw_lt23 : 23 < awOps.size := by rw [aw_sz]; decide
theorem aw_g27 : Sg.gate awOps 27 = true := by kernel_rfl
theorem aw_lt27 : 27 < awOps.size := by rw [aw_sz]; decide
theorem aw_g29 : Sg.gate awOps 29 = true := by kernel_rfl
theorem aw_lt29 : 29 < awOps.size := by rw [aw_sz]; decide
theorem aw_g33 : Sg.gate awOps 33 = true := by kernel_rfl
theorem aw_lt33 : 33 < awOps.size := by rw [aw_sz]; decide
theorem aw_g52 : Sg.gate awOps 52 = true := by kernel_rfl
theorem aw_lt52 : 52 < awOps.size := by rw [aw_sz]; decide
theorem aw_g55 : Sg.gate awOps 55 = true := by kernel_rfl
theorem aw_lt55 : 55 < awOps.size := by rw [aw_sz]; decide
theorem aw_g65 : Sg.gate awOps 65 = true := by kernel_rfl
theorem aw_lt65 : 65 < awOps.size := by rw [aw_sz]; decide
theorem aw_g68 : Sg.gate awOps 68 = true := by kernel_rfl
theorem aw_lt68 : 68 < awOps.size := by rw [aw_sz]; decide
theorem aw_g70 : Sg.gate awOps 70 = true := by kernel_rfl
theorem aw_lt70 : 70 < awOps.size := by rw [aw_sz]; decide
theorem aw_g73 : Sg.gate awOps 73 = true := by kernel_rfl
theorem aw_lt73 : 73 < awOps.size := by rw [aw_sz]; decide
theorem aw_g75 : Sg.gate awOps 75 = true := by kernel_rfl
theorem aw_lt75 : 75 < awOps.size := by rw [aw_sz]; decide
theorem aw_f0 : Sg.forced awOps (Sg.mid 0 awOps.size) [0, 1, 2, 3, 4, 5, 6, 7, 8, 9, 10, 11, 12, 13, 14, 15, 16, 17] = true := by kernel_rfl
theorem aw_f1 : Sg.forced awOps (((Sg.mid 18 (awOps.size - 18)).setIfInBounds 18 true).setIfInBounds 19 true) [20, 21] = true := by kernel_rfl
theorem aw_f2 : Sg.forced awOps (((Sg.mid 18 (awOps.size - 18)).setIfInBounds 18 true).setIfInBounds 20 true) [19, 21] = true := by kernel_rfl
theorem aw_f3 : Sg.forced awOps ((Sg.mid 18 (awOps.size - 18)).setIfInBounds 20 true) [18, 19, 21] = true := by kernel_rfl
theorem aw_f4 : Sg.forced awOps (Sg.mid 22 (awOps.size - 22)) [22, 23] = true := by kernel_rfl
theorem aw_f5 : Sg.forced awOps (((Sg.mid 24 (awOps.size - 24)).setIfInBounds 24 true).setIfInBounds 25 true) [26, 27] = true := by kernel_rfl
theorem aw_f6 : Sg.forced awOps (((Sg.mid 24 (awOps.size - 24)).setIfInBounds 24 true).setIfInBounds 26 true) [25, 27] = true := by kernel_rfl
theorem aw_f7 : Sg.forced awOps ((Sg.mid 24 (awOps.size - 24)).setIfInBounds 26 true) [24, 25, 27] = true := by kernel_rfl
theorem aw_f8 : Sg.forced awOps (Sg.mid 28 (awOps.size - 28)) [28, 29] = true := by kernel_rfl
theorem aw_f9 : Sg.forced awOps (((Sg.mid 30 (awOps.size - 30)).setIfInBounds 30 true).setIfInBounds 31 true) [32, 33] = true := by kernel_rfl
theorem aw_f10 : Sg.forced awOps (((Sg.mid 30 (awOps.size - 30)).setIfInBounds 30 true).setIfInBounds 32 true) [31, 33] = true := by kernel_rfl
theorem aw_f11 : Sg.forced awOps ((Sg.mid 30 (awOps.size - 30)).setIfInBounds 32 true) [30, 31, 33] = true := by kernel_rfl
theorem aw_f12 : Sg.forced awOps (Sg.mid 34 (awOps.size - 34)) [34, 35, 36, 37, 38, 39, 40, 41, 42, 43, 44, 45, 46, 47, 48, 49, 50, 51, 52] = true := by kernel_rfl
theorem aw_f13 : Sg.forced awOps ((Sg.mid 53 (awOps.size - 53)).setIfInBounds 53 true) [54, 55] = true := by kernel_rfl
theorem aw_f14 : Sg.forced awOps ((Sg.mid 53 (awOps.size - 53)).setIfInBounds 54 true) [53, 55] = true := by kernel_rfl
theorem aw_f15 : Sg.forced awOps (Sg.mid 56 (awOps.size - 56)) [56, 57, 58, 59, 60, 61, 62, 63, 64, 65] = true := by kernel_rfl
theorem aw_f16 : Sg.forced awOps ((Sg.mid 66 (awOps.size - 66)).setIfInBounds 66 true) [67, 68] = true := by kernel_rfl
theorem aw_f17 : Sg.forced awOps ((Sg.mid 66 (awOps.size - 66)).setIfInBounds 67 true) [66, 68] = true := by kernel_rfl
theorem aw_f18 : Sg.forced awOps (Sg.mid 69 (awOps.size - 69)) [69, 70] = true := by kernel_rfl
theorem aw_f19 : Sg.forced awOps ((Sg.mid 71 (awOps.size - 71)).setIfInBounds 71 true) [72, 73] = true := by kernel_rfl
theorem aw_f20 : Sg.forced awOps ((Sg.mid 71 (awOps.size - 71)).setIfInBounds 72 true) [71, 73] = true := by kernel_rfl
theorem aw_f21 : Sg.forced awOps (Sg.mid 74 (awOps.size - 74)) [74, 75] = true := by kernel_rfl
theorem aw_r0 : Region.ready .any awOps (Sg.mid 18 (awOps.size - 18)) = [18, 20] := by kernel_rfl
theorem aw_r1 : Region.ready .any awOps ((Sg.mid 18 (awOps.size - 18)).setIfInBounds 18 true) = [19, 20] := by kernel_rfl
theorem aw_r2 : Region.ready .any awOps (Sg.mid 24 (awOps.size - 24)) = [24, 26] := by kernel_rfl
theorem aw_r3 : Region.ready .any awOps ((Sg.mid 24 (awOps.size - 24)).setIfInBounds 24 true) = [25, 26] := by kernel_rfl
theorem aw_r4 : Region.ready .any awOps (Sg.mid 30 (awOps.size - 30)) = [30, 32] := by kernel_rfl
theorem aw_r5 : Region.ready .any awOps ((Sg.mid 30 (awOps.size - 30)).setIfInBounds 30 true) = [31, 32] := by kernel_rfl
theorem aw_r6 : Region.ready .any awOps (Sg.mid 53 (awOps.size - 53)) = [53, 54] := by kernel_rfl
theorem aw_r7 : Region.ready .any awOps (Sg.mid 66 (awOps.size - 66)) = [66, 67] := by kernel_rfl
theorem aw_r8 : Region.ready .any awOps (Sg.mid 71 (awOps.size - 71)) = [71, 72] := by kernel_rfl
end Go.Proofs.YthkppbimkjmbnaaGreatDoor

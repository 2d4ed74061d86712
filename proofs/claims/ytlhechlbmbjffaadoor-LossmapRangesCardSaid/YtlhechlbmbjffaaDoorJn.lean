/-
  slices.Equal at losses and at images, of two rows that read alike.
-/
import Derived.Test.YtlhechlbmbjffaaDoorJc
import Derived.BigQuiet
namespace Go.Proofs.YtlhechlbmbjffaaDoor
open Go.RowKit

set_option maxHeartbeats 3200000 in
set_option maxRecDepth 100000 in
/-- slices.Equal at losses. -/
theorem equalL_same (v1 v2 : Value) (L : List Lm.L) (w : World) (h1 : Lm.Losses w v1 L) (h2 : Lm.Losses w v2 L) :
    Calls Tryd.prog 13 #[v1, v2] w fun e w' => e = .returned (.bool true) ∧ Below w.heap.size w w' := by
  obtain ⟨A, c, rfl, hlc, hcm, hcell⟩ := h1
  obtain ⟨B, d, rfl, hld, hdm, hdell⟩ := h2
  unfold maxLen at hcm hdm
  have HC := Lib.hid hcell
  have HD := Lib.hid hdell
  clear hcell hdell
  go_enter Tryd.func13, Tryd.ntmps13
  go_wp2_with fail
  go_loopw [5, 13] (fun _ iv wr => ∃ j : Nat, j ≤ L.length ∧ iv = .int .i64 j ∧ Below w.heap.size w wr) (fun _ iv _ => L.length - (intOf iv).toNat)
  case atStart => exact ⟨0, by omega, rfl, Below.refl _ _⟩
  case round =>
    obtain ⟨j, hj, rfl, hbw⟩ := hrel
    by_cases hlt : j < L.length
    · obtain ⟨b, o, rfl, hbl, hce⟩ := HC.out (by omega)
      obtain ⟨b', o', rfl, hbl', hde⟩ := HD.out (by omega)
      have c0 := (hbw.cell (p := ⟨b, o + j * 3, none⟩) hbl).trans (hce j hlt 0 _ rfl)
      have c1 := (hbw.cell (p := ⟨b, o + j * 3 + 1, none⟩) hbl).trans (hce j hlt 1 _ rfl)
      have d0 := (hbw.cell (p := ⟨b', o' + j * 3, none⟩) hbl').trans (hde j hlt 0 _ rfl)
      have d1 := (hbw.cell (p := ⟨b', o' + j * 3 + 1, none⟩) hbl').trans (hde j hlt 1 _ rfl)
      have c2 := (hbw.cell (p := ⟨b, o + j * 3 + 2, none⟩) hbl).trans (hce j hlt 2 _ rfl)
      have d2 := (hbw.cell (p := ⟨b', o' + j * 3 + 2, none⟩) hbl').trans (hde j hlt 2 _ rfl)
      clear hce hde
      generalize L.getD j Lm.l0 = x at *
      obtain ⟨p, q, r⟩ := x
      simp only [] at *
      have hj0 : (0 : Int) ≤ (j : Int) := by omega
      have hj1 : (j : Int) < (L.length : Int) := by omega
      have HBW := Lib.hid hbw
      clear hbw
      go_wp2_with fail
      go_quiet (fail)
      go_wp2_with fail
      go_roundw
      case rel => exact ⟨j + 1, by omega, by go_num, Kit.Below.drewN HBW.out _⟩
      case measure => simp [intOf]; omega
    · obtain rfl : j = L.length := by omega
      go_wp2_with fail
      go_ret
      exact ⟨rfl, hbw⟩
set_option maxHeartbeats 3200000 in
set_option maxRecDepth 100000 in
/-- slices.Equal at images. -/
theorem equalI_same (v1 v2 : Value) (L : List ByteArray) (w : World) (h1 : Lm.Strs w v1 L) (h2 : Lm.Strs w v2 L) :
    Calls Tryd.prog 20 #[v1, v2] w fun e w' => e = .returned (.bool true) ∧ Below w.heap.size w w' := by
  obtain ⟨A, c, rfl, hlc, hcm, hcell⟩ := h1
  obtain ⟨B, d, rfl, hld, hdm, hdell⟩ := h2
  rw [Lm.strs_length] at *
  unfold maxLen at hcm hdm
  have HC := Lib.hid hcell
  have HD := Lib.hid hdell
  clear hcell hdell
  go_enter Tryd.func20, Tryd.ntmps20
  go_wp2_with fail
  go_loopw [5, 13] (fun _ iv wr => ∃ j : Nat, j ≤ L.length ∧ iv = .int .i64 j ∧ Below w.heap.size w wr) (fun _ iv _ => L.length - (intOf iv).toNat)
  case atStart => exact ⟨0, by omega, rfl, Below.refl _ _⟩
  case round =>
    obtain ⟨j, hj, rfl, hbw⟩ := hrel
    by_cases hlt : j < L.length
    · obtain ⟨b, o, rfl, hbl, hce⟩ := HC.out (by omega)
      obtain ⟨b', o', rfl, hbl', hde⟩ := HD.out (by omega)
      have c0 := (hbw.cell (p := ⟨b, o + j, none⟩) hbl).trans (hce j (.string (L.getD j ⟨#[]⟩)) (by simp [Lm.strs, List.getD, hlt]))
      have d0 := (hbw.cell (p := ⟨b', o' + j, none⟩) hbl').trans (hde j (.string (L.getD j ⟨#[]⟩)) (by simp [Lm.strs, List.getD, hlt]))
      clear hce hde
      generalize L.getD j ⟨#[]⟩ = x at *
      have hj0 : (0 : Int) ≤ (j : Int) := by omega
      have hj1 : (j : Int) < (L.length : Int) := by omega
      have HBW := Lib.hid hbw
      clear hbw
      go_wp2_with fail
      go_quiet (fail)
      go_wp2_with fail
      go_roundw
      case rel => exact ⟨j + 1, by omega, by go_num, Kit.Below.drewN HBW.out _⟩
      case measure => simp [intOf]; omega
    · obtain rfl : j = L.length := by omega
      go_wp2_with fail
      go_ret
      exact ⟨rfl, hbw⟩
end Go.Proofs.YtlhechlbmbjffaaDoor

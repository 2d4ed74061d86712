/-
  slices.Equal at ints.
-/
import Derived.Test.YtdcknfdileomoaaDoorKit2
import Derived.Test.YtdcknfdileomoaaDoorW17
namespace Go.Proofs.YtdcknfdileomoaaDoor
open Go.RowKit

set_option maxHeartbeats 1600000 in
set_option maxRecDepth 100000 in
/-- slices.Equal at ints. -/
theorem equal_any (v1 v2 : Value) (xs ys : List Int) (w : World) (h1 : Kit.Row w v1 (Kit.izs xs)) (h2 : Kit.Row w v2 (Kit.izs ys)) :
    Calls Tryd.prog 16 #[v1, v2] w fun e w' => e = .returned (.bool (decide (xs = ys))) ∧ Below w.heap.size w w' := by
  obtain ⟨A, c, rfl, hlc, hcm, hcell⟩ := h1
  obtain ⟨B, d, rfl, hld, hdm, hdell⟩ := h2
  simp only [Kit.izs_length] at *
  unfold maxLen at hcm hdm
  by_cases hl : xs.length = ys.length
  case neg =>
    have HR := Lib.hid (show decide (xs = ys) = false from decide_eq_false (fun e => hl (by rw [e])))
    have hl' : ((xs.length : Int) != (ys.length : Int)) = true := by rw [bne_iff_ne]; omega
    clear hcell hdell
    go_enter Tryd.func16, Tryd.ntmps16
    go_wp2_with fail
    go_ret
    rw [HR.out]
    exact ⟨rfl, Below.refl _ _⟩
  case pos =>
  obtain ⟨n, hx, hy⟩ : ∃ n, xs.length = n ∧ ys.length = n := ⟨xs.length, rfl, hl.symm⟩
  rw [hx] at hlc hcell ⊢
  rw [hy] at hld hdell ⊢
  have HC := Lib.hid hcell
  have HD := Lib.hid hdell
  have HX := Lib.hid hx
  have HY := Lib.hid hy
  clear hcell hdell hl hx hy
  go_enter Tryd.func16, Tryd.ntmps16
  go_wp2_with fail
  go_loopw [13] (fun iv wr => ∃ j : Nat, j ≤ n ∧ iv = .int .i64 j ∧ Hid (xs.take j = ys.take j) ∧ Below w.heap.size w wr) (fun iv _ => n - (intOf iv).toNat)
  case atStart => exact ⟨0, by omega, rfl, Lib.hid rfl, Below.refl _ _⟩
  case round =>
    obtain ⟨j, hj, rfl, HE, hbw⟩ := hrel
    by_cases hlt : j < n
    · have hlt1 : j < xs.length := by rw [HX.out]; exact hlt
      have hlt2 : j < ys.length := by rw [HY.out]; exact hlt
      obtain ⟨b, o, rfl, hbl, hce⟩ := HC.out (by omega)
      obtain ⟨b', o', rfl, hbl', hde⟩ := HD.out (by omega)
      have hcj : wr.cell? ⟨b, o + j, none⟩ = some (.int .i64 (xs.getD j 0)) := by
        rw [hbw.cell (p := ⟨b, o + j, none⟩) hbl]
        exact hce j _ (by simp [Kit.izs, List.getD, hlt1])
      have hdj : wr.cell? ⟨b', o' + j, none⟩ = some (.int .i64 (ys.getD j 0)) := by
        rw [hbw.cell (p := ⟨b', o' + j, none⟩) hbl']
        exact hde j _ (by simp [Kit.izs, List.getD, hlt2])
      clear hce hde
      by_cases he : xs.getD j 0 = ys.getD j 0
      · have HS := Lib.hid (show xs.take (j + 1) = ys.take (j + 1) by
          rw [List.take_succ_eq_append_getElem hlt1, List.take_succ_eq_append_getElem hlt2, HE.out]
          simp [List.getD, hlt1, hlt2] at he
          rw [he])
        rw [he] at hcj
        clear hlt1 hlt2
        generalize ys.getD j 0 = y at *
        clear he
        go_wp2_with fail
        go_quiet (fail)
        go_wp2_with fail
        go_roundw
        case rel => exact ⟨j + 1, by omega, by go_num, HS, Kit.Below.drewN hbw _⟩
        case measure => simp [intOf]; omega
      · have HS := Lib.hid (show decide (xs = ys) = false from decide_eq_false (fun e => he (by rw [e])))
        generalize xs.getD j 0 = x at *
        generalize ys.getD j 0 = y at *
        clear hlt1 hlt2
        have he' : (x != y) = true := by rw [bne_iff_ne]; exact he
        clear he
        go_wp2_with fail
        go_quiet (fail)
        go_wp2_with fail
        go_ret
        rw [HS.out]
        exact ⟨rfl, Kit.Below.drewN hbw _⟩
    · obtain rfl : j = n := by omega
      have hE := HE.out
      rw [List.take_of_length_le (by rw [HX.out]; omega), List.take_of_length_le (by rw [HY.out]; omega)] at hE
      have HS := Lib.hid (show decide (xs = ys) = true from decide_eq_true hE)
      clear hE
      go_wp2_with fail
      go_ret
      rw [HS.out]
      exact ⟨rfl, hbw⟩
end Go.Proofs.YtdcknfdileomoaaDoor

/-
  slices.Compare at ints.
-/
import Derived.Test.YtdcknfdileomoaaDoorE1
import Derived.Test.YtdcknfdileomoaaDoorShelf
namespace Go.Proofs.YtdcknfdileomoaaDoor
open Go.RowKit

/-- The order of lists of numbers. -/
def cmpL : List Int → List Int → Int
  | [], [] => 0
  | [], _ :: _ => -1
  | _ :: _, [] => 1
  | a :: s, b :: t => if a < b then -1 else if b < a then 1 else cmpL s t

theorem cmpL_same (p s t : List Int) : cmpL (p ++ s) (p ++ t) = cmpL s t := by
  induction p with
  | nil => rfl
  | cons a p ih =>
    show cmpL (a :: (p ++ s)) (a :: (p ++ t)) = _
    rw [cmpL, if_neg (by omega), if_neg (by omega), ih]

theorem cmp_drop {xs ys : List Int} {j : Nat} (h : xs.take j = ys.take j) : cmpL xs ys = cmpL (xs.drop j) (ys.drop j) := by
  have := cmpL_same (xs.take j) (xs.drop j) (ys.drop j)
  rw [List.take_append_drop] at this
  rw [← this]
  conv => rhs; rw [h, List.take_append_drop]

set_option maxHeartbeats 1600000 in
/-- cmp.Compare at ints. -/
theorem cmp_any (x y : Int) (w : World) : Calls Tryd.prog 62 #[.int .i64 x, .int .i64 y] w fun e w' => e = .returned (.int .i64 (if x < y then -1 else if y < x then 1 else 0)) ∧ w = w' := by
  have CX := Lib.hid (Tryd.cmp_isNaN_int2 x w)
  have CY := Lib.hid (Tryd.cmp_isNaN_int2 y w)
  by_cases h1 : x < y
  · rw [if_pos h1]
    go_enter Tryd.func62, Tryd.ntmps62
    go_wp2_with fail
    with_reducible refine CX.out.mono ?_
    rintro e w2 ⟨rfl, rfl⟩
    go_wp2_with fail
    with_reducible refine CY.out.mono ?_
    rintro e w2 ⟨rfl, rfl⟩
    go_wp2_with fail
    go_ret
    exact ⟨rfl, rfl⟩
  by_cases h2 : y < x
  · rw [if_neg h1, if_pos h2]
    go_enter Tryd.func62, Tryd.ntmps62
    go_wp2_with fail
    with_reducible refine CX.out.mono ?_
    rintro e w2 ⟨rfl, rfl⟩
    go_wp2_with fail
    with_reducible refine CY.out.mono ?_
    rintro e w2 ⟨rfl, rfl⟩
    go_wp2_with fail
    go_ret
    exact ⟨rfl, rfl⟩
  · rw [if_neg h1, if_neg h2]
    go_enter Tryd.func62, Tryd.ntmps62
    go_wp2_with fail
    with_reducible refine CX.out.mono ?_
    rintro e w2 ⟨rfl, rfl⟩
    go_wp2_with fail
    with_reducible refine CY.out.mono ?_
    rintro e w2 ⟨rfl, rfl⟩
    go_wp2_with fail
    go_ret
    exact ⟨rfl, rfl⟩

set_option maxHeartbeats 1600000 in
set_option maxRecDepth 100000 in
/-- slices.Compare at ints. -/
theorem compare_any (v1 v2 : Value) (xs ys : List Int) (w : World) (h1 : Kit.Row w v1 (Kit.izs xs)) (h2 : Kit.Row w v2 (Kit.izs ys)) :
    Calls Tryd.prog 39 #[v1, v2] w fun e w' => e = .returned (.int .i64 (cmpL xs ys)) ∧ Below w.heap.size w w' := by
  obtain ⟨A, c, rfl, hlc, hcm, hcell⟩ := h1
  obtain ⟨B, d, rfl, hld, hdm, hdell⟩ := h2
  simp only [Kit.izs_length] at *
  unfold maxLen at hcm hdm
  have HC := Lib.hid hcell
  have HD := Lib.hid hdell
  clear hcell hdell
  go_enter Tryd.func39, Tryd.ntmps39
  go_wp2_with fail
  go_loopw [11] (fun iv wr => ∃ j : Nat, j ≤ xs.length ∧ j ≤ ys.length ∧ iv = .int .i64 j ∧ Hid (xs.take j = ys.take j) ∧ Below w.heap.size w wr) (fun iv _ => xs.length - (intOf iv).toNat)
  case atStart => exact ⟨0, by omega, by omega, rfl, Lib.hid rfl, Below.refl _ _⟩
  case round =>
    obtain ⟨j, hj, hj2, rfl, HE, hbw⟩ := hrel
    have hcd := cmp_drop HE.out
    by_cases hlt : j < xs.length
    · obtain ⟨b, o, rfl, hbl, hce⟩ := HC.out (by omega)
      have hcj : wr.cell? ⟨b, o + j, none⟩ = some (.int .i64 (xs.getD j 0)) := by
        rw [hbw.cell (p := ⟨b, o + j, none⟩) hbl]
        exact hce j _ (by simp [Kit.izs, List.getD, hlt])
      clear hce
      have ex : xs.drop j = xs.getD j 0 :: xs.drop (j + 1) := by rw [List.drop_eq_getElem_cons hlt]; simp [List.getD, hlt]
      by_cases hlt2 : j < ys.length
      · obtain ⟨b', o', rfl, hbl', hde⟩ := HD.out (by omega)
        have hdj : wr.cell? ⟨b', o' + j, none⟩ = some (.int .i64 (ys.getD j 0)) := by
          rw [hbw.cell (p := ⟨b', o' + j, none⟩) hbl']
          exact hde j _ (by simp [Kit.izs, List.getD, hlt2])
        clear hde
        have ey : ys.drop j = ys.getD j 0 :: ys.drop (j + 1) := by rw [List.drop_eq_getElem_cons hlt2]; simp [List.getD, hlt2]
        have cX := fun W => cmp_any (xs.getD j 0) (ys.getD j 0) W
        have hS : xs.getD j 0 = ys.getD j 0 → xs.take (j + 1) = ys.take (j + 1) := fun he => by
          rw [List.take_succ_eq_append_getElem hlt, List.take_succ_eq_append_getElem hlt2, HE.out]
          simp [List.getD, hlt, hlt2] at he
          rw [he]
        rw [ex, ey, cmpL] at hcd
        clear ex ey
        generalize xs.getD j 0 = x at *
        generalize ys.getD j 0 = y at *
        by_cases h1 : x < y
        · rw [if_pos h1] at hcd
          simp only [if_pos h1] at cX
          have CX := Lib.hid cX
          have HR := Lib.hid hcd
          clear cX hcd hS
          go_wp2_with fail
          with_reducible refine (CX.out _).mono ?_
          rintro e w2 ⟨rfl, rfl⟩
          go_wp2_with fail
          go_ret
          rw [HR.out]
          exact ⟨rfl, hbw⟩
        by_cases h2 : y < x
        · rw [if_neg h1, if_pos h2] at hcd
          simp only [if_neg h1, if_pos h2] at cX
          have CX := Lib.hid cX
          have HR := Lib.hid hcd
          clear cX hcd hS
          go_wp2_with fail
          with_reducible refine (CX.out _).mono ?_
          rintro e w2 ⟨rfl, rfl⟩
          go_wp2_with fail
          go_ret
          rw [HR.out]
          exact ⟨rfl, hbw⟩
        · simp only [if_neg h1, if_neg h2] at cX
          have CX := Lib.hid cX
          have HS := Lib.hid (hS (by omega))
          clear cX hcd hS
          go_wp2_with fail
          with_reducible refine (CX.out _).mono ?_
          rintro e w2 ⟨rfl, rfl⟩
          go_wp2_with fail
          go_roundw
          case rel => exact ⟨j + 1, by omega, by omega, by go_num, HS, hbw⟩
          case measure => simp [intOf]; omega
      · have ey : ys.drop j = [] := List.drop_eq_nil_of_le (by omega)
        rw [ex, ey, cmpL] at hcd
        have HR := Lib.hid hcd
        clear hcd ex ey
        go_wp2_with fail
        go_ret
        rw [HR.out]
        exact ⟨rfl, hbw⟩
    · have ex : xs.drop j = [] := List.drop_eq_nil_of_le (by omega)
      by_cases hlt2 : xs.length < ys.length
      · have ey : ys.drop j = ys.getD j 0 :: ys.drop (j + 1) := by
          have h' : j < ys.length := by omega
          rw [List.drop_eq_getElem_cons h']; simp [List.getD, h']
        rw [ex, ey, cmpL] at hcd
        have HR := Lib.hid hcd
        clear hcd ex ey
        go_wp2_with fail
        go_ret
        rw [HR.out]
        exact ⟨rfl, hbw⟩
      · have ey : ys.drop j = [] := List.drop_eq_nil_of_le (by omega)
        rw [ex, ey, cmpL] at hcd
        have HR := Lib.hid hcd
        clear hcd ex ey
        go_wp2_with fail
        go_ret
        rw [HR.out]
        exact ⟨rfl, hbw⟩
end Go.Proofs.YtdcknfdileomoaaDoor

/-
  The walks through blocks, master.Valid of an image, valid.
-/
import Derived.Test.YtlhechlbmbjffaaDoorJa
namespace Go.Proofs.YtlhechlbmbjffaaDoor
open Go.RowKit

set_option maxHeartbeats 1600000 in
set_option maxRecDepth 100000 in
/-- lossmap.blocks. -/
theorem blocks_any (n : Int) (h0 : 0 ≤ n) (h1 : n ≤ 4611686018427387904) (w : World) : Calls Tryd.prog 48 #[.int .i64 n] w fun e w' => e = .returned (.int .i64 (Lm.blk n)) ∧ w = w' := by
  have hq : (n + 2048 - 1) / 2048 = Lm.blk n := by unfold Lm.blk; omega
  have HQ := Lib.hid hq
  clear hq
  go_enter Tryd.func48, Tryd.ntmps48
  go_wp2_with fail
  go_ret
  rw [HQ.out]
  exact ⟨rfl, rfl⟩

set_option maxHeartbeats 6400000 in
set_option maxRecDepth 100000 in
/-- master.Valid, of a disc without sessions. -/
theorem mValid_any (v : Value) (l : List ByteArray) (w : World) (hm : Lm.Strs w v l) :
    Calls Tryd.prog 56 #[.agg #[v, .slice none 0 0]] w fun e w' => e = .returned (.bool (Lm.validI l)) ∧ Below w.heap.size w w' := by
  have HM := Lib.hid hm
  obtain ⟨A, c, rfl, hlc, hcm, _⟩ := hm
  rw [Lm.strs_length] at *
  unfold maxLen at hcm
  by_cases h4 : 4096 < l.length
  · have HR := Lib.hid (show Lm.validI l = false by unfold Lm.validI; rw [decide_eq_false (by omega)]; rfl)
    have d0 : decide (4096 < l.length) = true := decide_eq_true h4
    have d1 : decide (4096 < (l.length : Int)) = true := decide_eq_true (by omega)
    go_enter Tryd.func56, Tryd.ntmps56
    go_wp2_with fail
    go_ret
    rw [HR.out]
    exact ⟨rfl, (Below.refl _ _).alloc (Nat.le_refl _) _⟩
  have HRA := Lib.hid (show Lm.validI l = l.all Lm.okB by unfold Lm.validI; rw [decide_eq_true (by omega)]; rfl)
  have d0 : decide (4096 < l.length) = false := decide_eq_false h4
  have d1 : decide (4096 < (l.length : Int)) = false := decide_eq_false (by omega)
  clear h4
  go_enter Tryd.func56, Tryd.ntmps56
  go_wp2_with fail
  go_loop [4, 21] (fun _ iv => ∃ j : Nat, j ≤ l.length ∧ iv = .int .i64 j ∧ Hid ((l.take j).all Lm.okB = true)) (fun _ iv => l.length - (intOf iv).toNat)
  case atStart => exact ⟨0, by omega, rfl, Lib.hid rfl⟩
  case round =>
    obtain ⟨j, hj, rfl, HA⟩ := hrel
    by_cases hlt : j < l.length
    · obtain ⟨b, o, c', hv, hb, hc⟩ := HM.out.cell hlt
      obtain ⟨rfl, _, rfl⟩ : A = some ⟨b, o, none⟩ ∧ l.length = l.length ∧ c = c' := by simpa using hv
      clear hv
      have HY := Lib.hid (fun h => Lm.all_snoc (p := Lm.okB) (d := ⟨#[]⟩) hlt HA.out h)
      have HN := Lib.hid (fun h => Lm.all_fail (p := Lm.okB) (l := l) (d := ⟨#[]⟩) hlt h)
      generalize l.getD j ⟨#[]⟩ = s at *
      have hcs := Lm.okB_cases s
      by_cases h1 : s.toList = []
      · have HNX := Lib.hid (HY.out (hcs.2 (Or.inl ((Lm.str_eq s []).1 h1))))
        have e1 : (!s.toList.isEmpty) = false := by rw [h1]; rfl
        clear hcs HY HN
        go_wp2_with fail
        go_round
        case rel => exact ⟨j + 1, by omega, by go_num, HNX⟩
        case measure => simp [intOf]; omega
      have e1 : (!s.toList.isEmpty) = true := by cases hq : s.toList with | nil => exact absurd hq h1 | cons _ _ => rfl
      by_cases h2 : s.toList = [33]
      · have HNX := Lib.hid (HY.out (hcs.2 (Or.inr (Or.inl ((Lm.str_eq s [33]).1 h2)))))
        have e2 : (!s.toList == [33]) = false := by rw [h2]; rfl
        clear hcs HY HN
        go_wp2_with fail
        go_round
        case rel => exact ⟨j + 1, by omega, by go_num, HNX⟩
        case measure => simp [intOf]; omega
      have e2 : (!s.toList == [33]) = true := by
        rw [Bool.not_eq_true', beq_eq_false_iff_ne]
        exact h2
      by_cases h3 : s.size = 2048
      · have HNX := Lib.hid (HY.out (hcs.2 (Or.inr (Or.inr h3))))
        have e3 : ((s.size : Int) != 2048) = false := by rw [h3]; rfl
        clear hcs HY HN h3
        go_wp2_with fail
        go_round
        case rel => exact ⟨j + 1, by omega, by go_num, HNX⟩
        case measure => simp [intOf]; omega
      have e3 : ((s.size : Int) != 2048) = true := by rw [bne_iff_ne]; omega
      have HV := Lib.hid (show Lm.validI l = false by
        rw [HRA.out]
        refine HN.out ?_
        rw [Bool.eq_false_iff]
        intro hv
        rcases hcs.1 hv with h | h | h
        · exact h1 ((Lm.str_eq s []).2 h)
        · exact h2 ((Lm.str_eq s [33]).2 h)
        · exact h3 h)
      clear hcs HY HN h3
      go_wp2_with fail
      go_ret
      rw [HV.out]
      exact ⟨rfl, (Below.refl _ _).alloc (Nat.le_refl _) _⟩
    · obtain rfl : j = l.length := by omega
      have HV := Lib.hid (show Lm.validI l = true by rw [HRA.out]; have := HA.out; rwa [List.take_length] at this)
      go_wp2_with fail
      go_loop [5, 6, 7, 40] (fun _ _ _ iv => iv = .int .i64 0) (fun _ _ _ _ => 0)
      case atStart => rfl
      case round =>
        subst hrel
        go_wp2_with fail
        go_ret
        rw [HV.out]
        exact ⟨rfl, (Below.refl _ _).alloc (Nat.le_refl _) _⟩

set_option maxHeartbeats 1600000 in
set_option maxRecDepth 100000 in
/-- lossmap.valid. -/
theorem valid_any (v : Value) (l : List ByteArray) (w : World) (hm : Lm.Strs w v l) :
    Calls Tryd.prog 42 #[v] w fun e w' => e = .returned (.bool (Lm.validI l)) ∧ Below w.heap.size w w' := by
  have CV := Lib.hid (mValid_any v l w hm)
  obtain ⟨A, c, rfl, _, _, _⟩ := hm
  rw [Lm.strs_length] at *
  generalize Lm.validI l = q at *
  go_enter Tryd.func42, Tryd.ntmps42
  go_wp2_with fail
  refine CV.out.mono ?_
  rintro e w2 ⟨rfl, hb2⟩
  go_wp2_with fail
  go_ret
  exact ⟨rfl, hb2⟩
end Go.Proofs.YtlhechlbmbjffaaDoor

/-
  The walk through master.Valid, of any disc.
-/
import Derived.Test.YtiekfipjbmdkpaaGreatDoorFa
namespace Go.Proofs.YtiekfipjbmdkpaaGreatDoor
open Go.RowKit
namespace Fi
theorem row3 {w : World} {v : Value} {l : List Se} (h : Sess w v l) {j : Nat} (hj : j < l.length) : ∃ b o c, v = .slice (some ⟨b, o, none⟩) l.length c ∧ b < w.heap.size ∧
    w.cell? ⟨b, o + j * 3, none⟩ = some (.int .i64 (l.getD j se0).start) ∧ w.cell? ⟨b, o + j * 3 + 1, none⟩ = some (.int .i64 (l.getD j se0).count) ∧ w.cell? ⟨b, o + j * 3 + 2, none⟩ = some (.bool (l.getD j se0).closed) := by
  obtain ⟨A, c, rfl, _, _, h3⟩ := h
  obtain ⟨b, o, rfl, hb, hc⟩ := h3 (by omega)
  exact ⟨b, o, c, rfl, hb, hc j hj 0 _ rfl, hc j hj 1 _ rfl, hc j hj 2 _ rfl⟩
end Fi

set_option maxHeartbeats 12800000 in
set_option maxRecDepth 100000 in
/-- master.Valid. -/
theorem mValidD_any (v sv : Value) (b : List ByteArray) (l : List Fi.Se) (w : World) (hm : Lm.Strs w v b) (hs : Fi.Sess w sv l) :
    Calls Tryz.prog 14 #[.agg #[v, sv]] w fun e w' => e = .returned (.bool (Fi.validD b l)) ∧ Below w.heap.size w w' := by
  have HM := Lib.hid hm
  have HS := Lib.hid hs
  obtain ⟨A, c, rfl, hlc, hcm, _⟩ := hm
  obtain ⟨D, d, rfl, hld, hdm, _⟩ := hs
  rw [Lm.strs_length] at *
  unfold maxLen at hcm hdm
  have hbA := (Below.refl w.heap.size w).alloc (Nat.le_refl _) (.cells #[.slice A b.length c, .slice D l.length d] 26)
  by_cases h4 : 4096 < b.length
  · have HR := Lib.hid (show Fi.validD b l = false by unfold Fi.validD Lm.validI; rw [decide_eq_false (by omega)]; rfl)
    have d0 : decide (4096 < b.length) = true := decide_eq_true h4
    have d1 : decide (4096 < (b.length : Int)) = true := decide_eq_true (by omega)
    go_enter Tryz.func14, Tryz.ntmps14
    go_wp2_with fail
    go_ret
    rw [HR.out]
    exact ⟨rfl, hbA⟩
  have d0 : decide (4096 < b.length) = false := decide_eq_false h4
  have d1 : decide (4096 < (b.length : Int)) = false := decide_eq_false (by omega)
  by_cases h5 : 16 < l.length
  · have HR := Lib.hid (show Fi.validD b l = false by unfold Fi.validD; rw [decide_eq_false (show ¬ l.length ≤ 16 by omega)]; simp)
    have d2 : decide (16 < l.length) = true := decide_eq_true h5
    have d3 : decide (16 < (l.length : Int)) = true := decide_eq_true (by omega)
    go_enter Tryz.func14, Tryz.ntmps14
    go_wp2_with fail
    go_ret
    rw [HR.out]
    exact ⟨rfl, hbA⟩
  have d2 : decide (16 < l.length) = false := decide_eq_false h5
  have d3 : decide (16 < (l.length : Int)) = false := decide_eq_false (by omega)
  have HRI := Lib.hid (show Lm.validI b = false → Fi.validD b l = false by intro h; unfold Fi.validD; rw [h]; rfl)
  have HRS := Lib.hid (show Lm.validI b = true → Fi.validD b l = Fi.sesOk l by intro h; unfold Fi.validD; rw [h, decide_eq_true (show l.length ≤ 16 by omega)]; rfl)
  have HRA := Lib.hid (show Lm.validI b = b.all Lm.okB by unfold Lm.validI; rw [decide_eq_true (by omega)]; rfl)
  clear h4
  go_enter Tryz.func14, Tryz.ntmps14
  go_wp2_with fail
  go_loop [4, 21] (fun _ iv => ∃ j : Nat, j ≤ b.length ∧ iv = .int .i64 j ∧ Hid ((b.take j).all Lm.okB = true)) (fun _ iv => b.length - (intOf iv).toNat)
  case atStart => exact ⟨0, by omega, rfl, Lib.hid rfl⟩
  case round =>
    obtain ⟨j, hj, rfl, HA⟩ := hrel
    by_cases hlt : j < b.length
    · obtain ⟨p, o, c', hv, hb, hc⟩ := HM.out.cell hlt
      obtain ⟨rfl, _, rfl⟩ : A = some ⟨p, o, none⟩ ∧ b.length = b.length ∧ c = c' := by simpa using hv
      clear hv
      have HY := Lib.hid (fun h => Lm.all_snoc (p := Lm.okB) (d := ⟨#[]⟩) hlt HA.out h)
      have HN := Lib.hid (fun h => Lm.all_fail (p := Lm.okB) (l := b) (d := ⟨#[]⟩) hlt h)
      generalize b.getD j ⟨#[]⟩ = s at *
      have hcs := Lm.okB_cases s
      by_cases h1 : s.toList = []
      · have HNX := Lib.hid (HY.out (hcs.2 (Or.inl ((Lm.str_eq s []).1 h1))))
        have e1 : (!s.toList.isEmpty) = false := by rw [h1]; rfl
        clear hcs HY HN
        go_wp2_with fail
        go_round
        case rel => exact ⟨j + 1, by omega, by go_num, HNX⟩
        case measure => simp [intOf]; omega
      have e1 : (!s.toList.isEmpty) = true := by cases hq : s.toList with | nil => exact absurd hq h1 | cons _ _ => rfl
      by_cases h2 : s.toList = [33]
      · have HNX := Lib.hid (HY.out (hcs.2 (Or.inr (Or.inl ((Lm.str_eq s [33]).1 h2)))))
        have e2 : (!s.toList == [33]) = false := by rw [h2]; rfl
        clear hcs HY HN
        go_wp2_with fail
        go_round
        case rel => exact ⟨j + 1, by omega, by go_num, HNX⟩
        case measure => simp [intOf]; omega
      have e2 : (!s.toList == [33]) = true := by
        rw [Bool.not_eq_true', beq_eq_false_iff_ne]
        exact h2
      by_cases h3 : s.size = 2048
      · have HNX := Lib.hid (HY.out (hcs.2 (Or.inr (Or.inr h3))))
        have e3 : ((s.size : Int) != 2048) = false := by rw [h3]; rfl
        clear hcs HY HN h3
        go_wp2_with fail
        go_round
        case rel => exact ⟨j + 1, by omega, by go_num, HNX⟩
        case measure => simp [intOf]; omega
      have e3 : ((s.size : Int) != 2048) = true := by rw [bne_iff_ne]; omega
      have HV := Lib.hid (HRI.out (by
        rw [HRA.out]
        refine HN.out ?_
        rw [Bool.eq_false_iff]
        intro hv
        rcases hcs.1 hv with h | h | h
        · exact h1 ((Lm.str_eq s []).2 h)
        · exact h2 ((Lm.str_eq s [33]).2 h)
        · exact h3 h))
      clear hcs HY HN h3
      go_wp2_with fail
      go_ret
      rw [HV.out]
      exact ⟨rfl, hbA⟩
    · obtain rfl : j = b.length := by omega
      have HV := Lib.hid (HRS.out (by rw [HRA.out]; have := HA.out; rwa [List.take_length] at this))
      clear HRI HRS HRA HA hj hlt HM
      go_wp2_with fail
      have x0 : (w.alloc (.cells #[.slice A b.length c, .slice D l.length d] 26)).cell? ⟨w.heap.size, 0, none⟩ = some (.slice A b.length c) := by
        rw [World.cell?_alloc_at _ _ _ _ (by simp)]; rfl
      have x1 : (w.alloc (.cells #[.slice A b.length c, .slice D l.length d] 26)).cell? ⟨w.heap.size, 1, none⟩ = some (.slice D l.length d) := by
        rw [World.cell?_alloc_at _ _ _ _ (by simp)]; rfl
      have hS1 : Fi.Sess (w.alloc (.cells #[.slice A b.length c, .slice D l.length d] 26)) (.slice D l.length d) l := HS.out.below hbA
      have hg : (w.alloc (.cells #[.slice A b.length c, .slice D l.length d] 26)).heap.size = w.heap.size + 1 := by simp
      have HBA := Lib.hid hbA
      generalize w.alloc (.cells #[.slice A b.length c, .slice D l.length d] 26) = W at *
      have HX := Lib.hid (And.intro x0 x1)
      have HS1 := Lib.hid hS1
      clear HS x0 x1 hS1 hbA
      go_loopw [5, 6, 7, 40] (fun ev _ _ iv wr => ∃ j : Nat, j ≤ l.length ∧ iv = .int .i64 j ∧ ev = .int .i64 (Fi.endAt l j) ∧ Hid (∀ i, i < j → Fi.badAt l i = false) ∧ Below (w.heap.size + 1) W wr) (fun _ _ _ iv _ => l.length - (intOf iv).toNat)
      case atStart => exact ⟨0, by omega, rfl, rfl, Lib.hid (fun i hi => absurd hi (by omega)), Below.refl _ _⟩
      case round =>
        obtain ⟨j, hj, rfl, rfl, HB, hbw⟩ := hrel
        have HBW := Lib.hid hbw
        have hend := HBA.out.trans (hbw.mono (show w.heap.size ≤ w.heap.size + 1 by omega))
        have HE := Lib.hid hend
        clear hend
        by_cases hlt : j < l.length
        · obtain ⟨p, o, c', hv, hpl, q0, q1, q2⟩ := Fi.row3 HS1.out hlt
          obtain ⟨rfl, _, rfl⟩ : D = some ⟨p, o, none⟩ ∧ l.length = l.length ∧ d = c' := by simpa using hv
          clear hv
          have y0 := (hbw.cell (p := ⟨p, o + j * 3, none⟩) (by show p < _; omega)).trans q0
          have y1 := (hbw.cell (p := ⟨p, o + j * 3 + 1, none⟩) (by show p < _; omega)).trans q1
          have y2 := (hbw.cell (p := ⟨p, o + j * 3 + 2, none⟩) (by show p < _; omega)).trans q2
          have x1 := (hbw.cell (p := ⟨w.heap.size, 1, none⟩) (by show w.heap.size < _; omega)).trans HX.out.2
          have x0 := (hbw.cell (p := ⟨w.heap.size, 0, none⟩) (by show w.heap.size < _; omega)).trans HX.out.1
          have hge := Fi.endAt_ge HB.out
          have hlt1 : w.heap.size < wr.heap.size := by have := hbw.size; omega
          have hne1 : w.heap.size ≠ wr.heap.size := by omega
          have HF := Lib.hid (fun h => Fi.sesOk_false hlt h)
          have HN := Lib.hid (show Fi.badAt l j = false → ∀ i, i < j + 1 → Fi.badAt l i = false by
            intro h i hi
            by_cases hij : i = j
            · subst hij; exact h
            · exact HB.out i (by omega))
          have HEN := Lib.hid (show Fi.endAt l (j + 1) = (l.getD j Fi.se0).start + (l.getD j Fi.se0).count from rfl)
          have HBD := Lib.hid (show Fi.badAt l j = Fi.badS l.length (Fi.endAt l j) j (l.getD j Fi.se0) from rfl)
          generalize Fi.endAt l j = e at *
          generalize Fi.badAt l j = bb at *
          generalize l.getD j Fi.se0 = s at *
          obtain ⟨s0, s1, s2⟩ := s
          simp only [] at *
          clear q0 q1 q2 hbw HB HS1
          have HFX := Lib.hid (show ¬ (e ≤ s0 ∧ s0 ≤ 4096 ∧ 1 ≤ s1 ∧ s1 ≤ 4096 - s0 ∧ (s2 = true ∨ (l.length : Int) - 1 ≤ j)) → Fi.validD b l = false by
            intro h
            rw [HV.out]
            refine HF.out ?_
            rw [HBD.out]
            cases hq : Fi.badS l.length e j ⟨s0, s1, s2⟩ with
            | true => rfl
            | false => exact absurd (Fi.badS_false.1 hq) h)
          have HGX := Lib.hid (show (e ≤ s0 ∧ s0 ≤ 4096 ∧ 1 ≤ s1 ∧ s1 ≤ 4096 - s0 ∧ (s2 = true ∨ (l.length : Int) - 1 ≤ j)) → ∀ i, i < j + 1 → Fi.badAt l i = false by
            intro h
            refine HN.out ?_
            rw [HBD.out]
            exact Fi.badS_false.2 h)
          clear HF HN HBD HV
          by_cases g0 : s0 < e
          · have HR := Lib.hid (HFX.out (by omega))
            have e0 : decide (s0 < e) = true := decide_eq_true g0
            clear HFX HGX
            go_wp2_with fail
            go_ret
            rw [HR.out]
            exact ⟨rfl, HE.out.alloc (by have := HE.out.size; omega) _⟩
          have e0 : decide (s0 < e) = false := decide_eq_false g0
          by_cases g1 : 4096 < s0
          · have HR := Lib.hid (HFX.out (by omega))
            have e1 : decide (4096 < s0) = true := decide_eq_true g1
            clear HFX HGX
            go_wp2_with fail
            go_ret
            rw [HR.out]
            exact ⟨rfl, HE.out.alloc (by have := HE.out.size; omega) _⟩
          have e1 : decide (4096 < s0) = false := decide_eq_false g1
          by_cases g2 : s1 < 1
          · have HR := Lib.hid (HFX.out (by omega))
            have e2 : decide (s1 < 1) = true := decide_eq_true g2
            clear HFX HGX
            go_wp2_with fail
            go_ret
            rw [HR.out]
            exact ⟨rfl, HE.out.alloc (by have := HE.out.size; omega) _⟩
          have e2 : decide (s1 < 1) = false := decide_eq_false g2
          by_cases g3 : 4096 - s0 < s1
          · have HR := Lib.hid (HFX.out (by omega))
            have e3 : decide (4096 - s0 < s1) = true := decide_eq_true g3
            clear HFX HGX
            go_wp2_with fail
            go_ret
            rw [HR.out]
            exact ⟨rfl, HE.out.alloc (by have := HE.out.size; omega) _⟩
          have e3 : decide (4096 - s0 < s1) = false := decide_eq_false g3
          cases s2 with
          | true =>
            have HG := Lib.hid (HGX.out ⟨by omega, by omega, by omega, by omega, Or.inl rfl⟩)
            clear HFX HGX
            go_wp2_with fail
            go_roundw
            case rel => exact ⟨j + 1, by omega, by go_num, by rw [HEN.out], HG, HBW.out.alloc (by have := HBW.out.size; omega) _⟩
            case measure => simp [intOf]; omega
          | false =>
            by_cases g4 : (j : Int) < (l.length : Int) - 1
            · have HR := Lib.hid (HFX.out (by simp; omega))
              have e4 : decide ((j : Int) < (l.length : Int) - 1) = true := decide_eq_true g4
              clear HFX HGX
              go_wp2_with fail
              go_ret
              rw [HR.out]
              exact ⟨rfl, HE.out.alloc (by have := HE.out.size; omega) _⟩
            have e4 : decide ((j : Int) < (l.length : Int) - 1) = false := decide_eq_false g4
            have HG := Lib.hid (HGX.out ⟨by omega, by omega, by omega, by omega, Or.inr (by omega)⟩)
            clear HFX HGX
            go_wp2_with fail
            go_roundw
            case rel => exact ⟨j + 1, by omega, by go_num, by rw [HEN.out], HG, HBW.out.alloc (by have := HBW.out.size; omega) _⟩
            case measure => simp [intOf]; omega
        · obtain rfl : j = l.length := by omega
          have HR := Lib.hid (HV.out.trans (Fi.sesOk_true HB.out))
          clear HV HB
          go_wp2_with fail
          go_ret
          rw [HR.out]
          exact ⟨rfl, HE.out⟩
end Go.Proofs.YtiekfipjbmdkpaaGreatDoor

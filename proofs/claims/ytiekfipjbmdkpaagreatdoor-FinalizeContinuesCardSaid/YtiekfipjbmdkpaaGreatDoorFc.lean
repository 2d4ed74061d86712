/-
  The walks through the reference's Valid (layer 49) and finalize.Closed, of any disc.
-/
import Derived.Test.YtiekfipjbmdkpaaGreatDoorFb
namespace Go.Proofs.YtiekfipjbmdkpaaGreatDoor
open Go.RowKit
namespace Fi
theorem box2 (W : World) (x y : Value) (T : TypeId) : (W.alloc (.cells #[x, y] T)).cell? ⟨W.heap.size, 0, none⟩ = some x ∧ (W.alloc (.cells #[x, y] T)).cell? ⟨W.heap.size, 1, none⟩ = some y := by
  constructor <;> (rw [World.cell?_alloc_at _ _ _ _ (by simp)]; rfl)
theorem box3 (W : World) (x y z : Value) (T : TypeId) : (W.alloc (.cells #[x, y, z] T)).cell? ⟨W.heap.size, 0, none⟩ = some x ∧ (W.alloc (.cells #[x, y, z] T)).cell? ⟨W.heap.size, 1, none⟩ = some y ∧ (W.alloc (.cells #[x, y, z] T)).cell? ⟨W.heap.size, 2, none⟩ = some z := by
  refine ⟨?_, ?_, ?_⟩ <;> (rw [World.cell?_alloc_at _ _ _ _ (by simp)]; rfl)
end Fi

set_option maxHeartbeats 12800000 in
set_option maxRecDepth 100000 in
/-- masterdiscref49.Valid. -/
theorem rValidD_any (v sv : Value) (b : List ByteArray) (l : List Fi.Se) (w : World) (hm : Lm.Strs w v b) (hs : Fi.Sess w sv l) :
    Calls Tryz.prog 16 #[.agg #[v, sv]] w fun e w' => e = .returned (.bool (Fi.validD b l)) ∧ Below w.heap.size w w' := by
  have HM := Lib.hid hm
  have HS := Lib.hid hs
  obtain ⟨A, c, rfl, hlc, hcm, _⟩ := hm
  obtain ⟨D, d, rfl, hld, hdm, _⟩ := hs
  rw [Lm.strs_length] at *
  unfold maxLen at hcm hdm
  have hbA := (Below.refl w.heap.size w).alloc (Nat.le_refl _) (.cells #[.slice A b.length c, .slice D l.length d] 26)
  have x0 := (Fi.box2 w (.slice A b.length c) (.slice D l.length d) 26).1
  have x1 := (Fi.box2 w (.slice A b.length c) (.slice D l.length d) 26).2
  have CI := Lib.hid (rValidImage_any _ b _ (HM.out.below hbA))
  have hg : (w.alloc (.cells #[.slice A b.length c, .slice D l.length d] 26)).heap.size = w.heap.size + 1 := by simp
  have HG := Lib.hid hg
  have HBA := Lib.hid hbA
  have HX := Lib.hid (And.intro x0 x1)
  clear hbA x0 x1 hg
  go_enter Tryz.func16, Tryz.ntmps16
  go_wp2_with fail
  with_reducible refine CI.out.mono ?_
  rintro e w2 ⟨rfl, hb2⟩
  clear CI
  have x1 := (hb2.cell (p := ⟨w.heap.size, 1, none⟩) (by rw [HG.out]; show w.heap.size < _; omega)).trans HX.out.2
  have hbw := HBA.out.trans (hb2.mono HBA.out.size)
  have hsz : w.heap.size + 1 ≤ w2.heap.size := by have := hb2.size; rw [HG.out] at this; exact this
  have hS1 : Fi.Sess w2 (.slice D l.length d) l := HS.out.below hbw
  have HS1 := Lib.hid hS1
  have HBW := Lib.hid hbw
  clear hS1 hbw HX HBA HG hb2 HS HM
  cases hvi : Lm.validI b with
  | false =>
    have HR := Lib.hid (show Fi.validD b l = false by unfold Fi.validD; rw [hvi]; rfl)
    go_wp2_with fail
    go_ret
    rw [HR.out]
    exact ⟨rfl, HBW.out⟩
  | true =>
  by_cases h5 : 16 < l.length
  · have HR := Lib.hid (show Fi.validD b l = false by unfold Fi.validD; rw [decide_eq_false (show ¬ l.length ≤ 16 by omega)]; simp)
    have d2 : decide (16 < l.length) = true := decide_eq_true h5
    have d3 : decide (16 < (l.length : Int)) = true := decide_eq_true (by omega)
    go_wp2_with fail
    go_ret
    rw [HR.out]
    exact ⟨rfl, HBW.out⟩
  have d2 : decide (16 < l.length) = false := decide_eq_false h5
  have d3 : decide (16 < (l.length : Int)) = false := decide_eq_false (by omega)
  have HV := Lib.hid (show Fi.validD b l = Fi.sesOk l by unfold Fi.validD; rw [hvi, decide_eq_true (show l.length ≤ 16 by omega)]; rfl)
  clear hvi
  go_wp2_with fail
  have HX1 := Lib.hid x1
  clear x1
  go_loopw [3, 4, 5] (fun ev iv _ wr => ∃ j : Nat, j ≤ l.length ∧ iv = .int .i64 j ∧ ev = .int .i64 (Fi.endAt l j) ∧ Hid (∀ i, i < j → Fi.badAt l i = false) ∧ Below w2.heap.size w2 wr) (fun _ iv _ _ => l.length - (intOf iv).toNat)
  case atStart => exact ⟨0, by omega, rfl, rfl, Lib.hid (fun i hi => absurd hi (by omega)), Below.refl _ _⟩
  case round =>
    obtain ⟨j, hj, rfl, rfl, HB, hbr⟩ := hrel
    have x1 := (hbr.cell (p := ⟨w.heap.size, 1, none⟩) (by show w.heap.size < _; omega)).trans HX1.out
    have HBR := Lib.hid hbr
    have hlt1 : w.heap.size < wr.heap.size := by have := hbr.size; omega
    have hne1 : w.heap.size ≠ wr.heap.size := by omega
    by_cases hlt : j < l.length
    · obtain ⟨p, o, c', hv, hpl, q0, q1, q2⟩ := Fi.row3 (HS1.out.below hbr) hlt
      obtain ⟨rfl, _, rfl⟩ : D = some ⟨p, o, none⟩ ∧ l.length = l.length ∧ d = c' := by simpa using hv
      clear hv
      have hge := Fi.endAt_ge HB.out
      have HF := Lib.hid (fun h => Fi.sesOk_false hlt h)
      have HN := Lib.hid (show Fi.badAt l j = false → ∀ i, i < j + 1 → Fi.badAt l i = false by
        intro h i hi
        by_cases hij : i = j
        · subst hij; exact h
        · exact HB.out i (by omega))
      have HEN := Lib.hid (show Fi.endAt l (j + 1) = (l.getD j Fi.se0).start + (l.getD j Fi.se0).count from rfl)
      have HBD := Lib.hid (show Fi.badAt l j = Fi.badS l.length (Fi.endAt l j) j (l.getD j Fi.se0) from rfl)
      generalize Fi.endAt l j = e at *
      generalize Fi.badAt l j = bb at *
      generalize l.getD j Fi.se0 = s at *
      obtain ⟨s0, s1, s2⟩ := s
      simp only [] at *
      clear hbr HB
      have HFX := Lib.hid (show ¬ (e ≤ s0 ∧ s0 ≤ 4096 ∧ 1 ≤ s1 ∧ s1 ≤ 4096 - s0 ∧ (s2 = true ∨ (l.length : Int) - 1 ≤ j)) → Fi.validD b l = false by
        intro h
        rw [HV.out]
        refine HF.out ?_
        rw [HBD.out]
        cases hq : Fi.badS l.length e j ⟨s0, s1, s2⟩ with
        | true => rfl
        | false => exact absurd (Fi.badS_false.1 hq) h)
      have HGX := Lib.hid (show (e ≤ s0 ∧ s0 ≤ 4096 ∧ 1 ≤ s1 ∧ s1 ≤ 4096 - s0 ∧ (s2 = true ∨ (l.length : Int) - 1 ≤ j)) → ∀ i, i < j + 1 → Fi.badAt l i = false by
        intro h
        refine HN.out ?_
        rw [HBD.out]
        exact Fi.badS_false.2 h)
      have CS := Lib.hid (fun W => r49ValidSpan_any s0 s1 W)
      have HZ := Lib.hid (Fi.box3 wr (.int .i64 s0) (.int .i64 s1) (.bool s2) 49)
      have HBS := Lib.hid (HBR.out.alloc HBR.out.size (.cells #[.int .i64 s0, .int .i64 s1, .bool s2] 49))
      have HSZ := Lib.hid (show (wr.alloc (.cells #[.int .i64 s0, .int .i64 s1, .bool s2] 49)).heap.size = wr.heap.size + 1 by simp)
      clear HF HN HBD HV
      go_wp2_with fail
      with_reducible refine (CS.out _).mono ?_
      rintro e w3 ⟨rfl, hb3⟩
      have z0 := (hb3.cell (p := ⟨wr.heap.size, 0, none⟩) (by rw [HSZ.out]; show wr.heap.size < _; omega)).trans HZ.out.1
      have z1 := (hb3.cell (p := ⟨wr.heap.size, 1, none⟩) (by rw [HSZ.out]; show wr.heap.size < _; omega)).trans HZ.out.2.1
      have z2 := (hb3.cell (p := ⟨wr.heap.size, 2, none⟩) (by rw [HSZ.out]; show wr.heap.size < _; omega)).trans HZ.out.2.2
      have hb23 := HBS.out.trans (hb3.mono HBS.out.size)
      have x3 := (hb23.cell (p := ⟨w.heap.size, 1, none⟩) (by show w.heap.size < _; omega)).trans HX1.out
      have HB3 := Lib.hid hb23
      have HBE := Lib.hid (HBW.out.trans (hb23.mono HBW.out.size))
      clear hb3 hb23 CS HZ HBS HSZ x1 q0 q1 q2
      cases hq : Ex.spanOk s0 s1 with
      | false =>
        have HR := Lib.hid (HFX.out (by
          intro h
          rw [show Ex.spanOk s0 s1 = true by unfold Ex.spanOk; simp only [Bool.and_eq_true, decide_eq_true_eq]; omega] at hq
          cases hq))
        clear HFX HGX
        go_wp2_with fail
        go_ret
        rw [HR.out]
        exact ⟨rfl, HBE.out⟩
      | true =>
        have hq' : 0 ≤ s0 ∧ 1 ≤ s1 ∧ s0 ≤ 4096 ∧ s1 ≤ 4096 - s0 := by
          unfold Ex.spanOk at hq
          simp only [Bool.and_eq_true, decide_eq_true_eq] at hq
          omega
        clear hq
        by_cases g0 : s0 < e
        · have HR := Lib.hid (HFX.out (by omega))
          have e0 : decide (s0 < e) = true := decide_eq_true g0
          clear HFX HGX
          go_wp2_with fail
          go_ret
          rw [HR.out]
          exact ⟨rfl, HBE.out⟩
        have e0 : decide (s0 < e) = false := decide_eq_false g0
        cases s2 with
        | true =>
          have HG := Lib.hid (HGX.out ⟨by omega, by omega, by omega, by omega, Or.inl rfl⟩)
          clear HFX HGX
          go_wp2_with fail
          go_roundw
          case rel => exact ⟨j + 1, by omega, by go_num, by rw [HEN.out], HG, HB3.out⟩
          case measure => simp [intOf]; omega
        | false =>
          by_cases g4 : (j : Int) < (l.length : Int) - 1
          · have HR := Lib.hid (HFX.out (by simp; omega))
            have e4 : decide ((j : Int) < (l.length : Int) - 1) = true := decide_eq_true g4
            clear HFX HGX
            go_wp2_with fail
            go_ret
            rw [HR.out]
            exact ⟨rfl, HBE.out⟩
          have e4 : decide ((j : Int) < (l.length : Int) - 1) = false := decide_eq_false g4
          have HG := Lib.hid (HGX.out ⟨by omega, by omega, by omega, by omega, Or.inr (by omega)⟩)
          clear HFX HGX
          go_wp2_with fail
          go_roundw
          case rel => exact ⟨j + 1, by omega, by go_num, by rw [HEN.out], HG, HB3.out⟩
          case measure => simp [intOf]; omega
    · obtain rfl : j = l.length := by omega
      have HR := Lib.hid (HV.out.trans (Fi.sesOk_true HB.out))
      have HBE := Lib.hid (HBW.out.trans (hbr.mono HBW.out.size))
      clear HV HB hbr
      go_wp2_with fail
      go_ret
      rw [HR.out]
      exact ⟨rfl, HBE.out⟩
end Go.Proofs.YtiekfipjbmdkpaaGreatDoor

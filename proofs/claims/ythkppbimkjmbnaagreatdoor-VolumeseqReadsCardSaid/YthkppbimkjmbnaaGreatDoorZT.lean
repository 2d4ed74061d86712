/-
  The walks through datetime.seconds, Join, read.
-/
import Derived.Test.YthkppbimkjmbnaaGreatDoorZS
import Derived.Test.YthkppbimkjmbnaaGreatDoorZQ
import Derived.OwnWalk
namespace Go.Proofs.YthkppbimkjmbnaaGreatDoor
open Go.RowKit

set_option maxHeartbeats 12800000 in
set_option maxRecDepth 100000 in
/-- datetime.seconds, of a valid clock. -/
theorem seconds_any (c : Vs.C) (w : World) (hok : Vs.okC c = true) : Calls Tryz.prog 267 #[.agg (Vs.cC c)] w fun e w' => e = .returned (.int .i64 (Vs.secs c)) ∧ Below w.heap.size w w' := by
  obtain ⟨q1, q2, q3, q4, q5, q6, q7, q8, q9, q10, q11, q12⟩ := (Vs.okC_iff c).1 hok
  have hmd := Vs.mdays_bd c.y c.m
  have HSEC := Lib.hid (show Vs.secs c = (c.d - 1 + Vs.msum c.y (c.m - 1).toNat + Vs.yto c.y) * 86400 + c.h * 3600 + c.mi * 60 + c.s from rfl)
  have HX0 := Lib.hid (Vs.box_at w c)
  obtain ⟨y, m, d, hh, mi, s⟩ := c
  unfold Vs.cC
  simp only [] at *
  have hd : d ≤ 31 := by omega
  have HB := Lib.hid ((Below.refl w.heap.size w).alloc (Nat.le_refl _) (.cells #[.int .i64 y, .int .i64 m, .int .i64 d, .int .i64 hh, .int .i64 mi, .int .i64 s] 161))
  have hlt : w.heap.size < (w.alloc (.cells #[.int .i64 y, .int .i64 m, .int .i64 d, .int .i64 hh, .int .i64 mi, .int .i64 s] 161)).heap.size := by simp
  have HLT := Lib.hid hlt
  have HX := Lib.hid (fun (W : World) (hb : Below (w.alloc (.cells #[.int .i64 y, .int .i64 m, .int .i64 d, .int .i64 hh, .int .i64 mi, .int .i64 s] 161)).heap.size (w.alloc (.cells #[.int .i64 y, .int .i64 m, .int .i64 d, .int .i64 hh, .int .i64 mi, .int .i64 s] 161)) W) (j : Nat) => (hb.cell (p := ⟨w.heap.size, j, none⟩) HLT.out).trans (HX0.out j))
  have HSZ := Lib.hid (show w.heap.size ≤ (w.alloc (.cells #[.int .i64 y, .int .i64 m, .int .i64 d, .int .i64 hh, .int .i64 mi, .int .i64 s] 161)).heap.size by omega)
  clear hmd q6 hok hlt
  go_enter Tryz.func267, Tryz.ntmps267
  go_wp2_with fail
  generalize hW1 : w.alloc (.cells #[.int .i64 y, .int .i64 m, .int .i64 d, .int .i64 hh, .int .i64 mi, .int .i64 s] 161) = W1 at *
  clear hW1 HX0
  go_loopw [3, 4] (fun dv mv wr => ∃ k : Nat, mv = .int .i64 ((k : Int) + 1) ∧ dv = .int .i64 (d - 1 + Vs.msum y k) ∧ (k : Int) + 1 ≤ m ∧ Below W1.heap.size W1 wr) (fun _ mv _ => (m - intOf mv).toNat)
  case atStart => exact ⟨0, rfl, by simp [Vs.msum], by omega, Below.refl _ _⟩
  case round =>
    obtain ⟨k, rfl, rfl, hkm, hbw⟩ := hrel
    have hms := Vs.msum_bd y k
    have c0 := HX.out wr hbw 0
    have c1 := HX.out wr hbw 1
    simp only [List.getElem?_toArray, List.getElem?_cons_zero, List.getElem?_cons_succ] at c0 c1
    have HBW := Lib.hid hbw
    by_cases hgo : (k : Int) + 1 < m
    · have CM := Lib.hid (fun W => monthDays_any y ((k : Int) + 1) (by omega) (by omega) (by omega) (by omega) W)
      have hmd := Vs.mdays_bd y ((k : Int) + 1)
      have HN := Lib.hid (show Vs.msum y (k + 1) = Vs.msum y k + Vs.mdays y ((k : Int) + 1) from rfl)
      clear hbw
      generalize Vs.mdays y ((k : Int) + 1) = md at *
      generalize Vs.msum y k = ms at *
      go_wp2_with fail
      with_reducible refine (CM.out _).mono ?_
      rintro e w2 ⟨rfl, hb2⟩
      have HB2 := Lib.hid (HBW.out.trans (hb2.mono HBW.out.size))
      clear c0 c1 hb2
      go_wp2_with fail
      go_roundw
      case rel => exact ⟨k + 1, by go_num, by rw [HN.out, ← Int.add_assoc], by omega, HB2.out⟩
      case measure => simp [intOf]; omega
    · have hkm2 : (m - 1).toNat = k := by omega
      have HSEC2 := Lib.hid (by have h := HSEC.out; rw [hkm2] at h; exact h)
      clear hkm2 HSEC
      have hDb : -1 ≤ d - 1 + Vs.msum y k ∧ d - 1 + Vs.msum y k ≤ 1000 := by omega
      generalize hD0 : d - 1 + Vs.msum y k = D0 at hDb ⊢
      have HD0 := Lib.hid hD0
      clear hD0 hms
      have hgo2 : ¬ ((k : Int) + 1 < m) := hgo
      go_wp2_with fail
      clear c0 c1 hgo hgo2
      obtain ⟨wa, hwa⟩ : ∃ wa, wa = wr := ⟨_, rfl⟩
      have c0 := HX.out wr hbw 0
      have c3 := HX.out wr hbw 3
      have c4 := HX.out wr hbw 4
      have c5 := HX.out wr hbw 5
      simp only [List.getElem?_toArray, List.getElem?_cons_zero, List.getElem?_cons_succ] at c0 c3 c4 c5
      go_loop [3, 5] (fun dv yv => ∃ n : Nat, yv = .int .i64 (1970 + (n : Int)) ∧ dv = .int .i64 (D0 + Vs.ysum 1970 n) ∧ ((n : Int) = 0 ∨ 1970 + (n : Int) ≤ y)) (fun _ yv => (y - intOf yv).toNat)
      case atStart => exact ⟨0, rfl, by simp [Vs.ysum], .inl rfl⟩
      case round =>
        obtain ⟨n, rfl, rfl, hny⟩ := hrel
        have hys := Vs.ysum_bd 1970 n
        by_cases hgo : 1970 + (n : Int) < y
        · have CY := Lib.hid (fun W => yearDays_any (1970 + (n : Int)) (by omega) (by omega) W)
          have hyb := Vs.ydays_bd (1970 + (n : Int))
          have HN := Lib.hid (show Vs.ysum 1970 (n + 1) = Vs.ysum 1970 n + Vs.ydays (1970 + (n : Int)) from rfl)
          generalize Vs.ydays (1970 + (n : Int)) = yd at *
          generalize Vs.ysum 1970 n = ys at *
          go_wp2_with fail
          with_reducible refine (CY.out _).mono ?_
          rintro e w2 ⟨rfl, hw2⟩
          subst hw2
          go_wp2_with fail
          go_round
          case rel => exact ⟨n + 1, by first | rfl | exact congrArg (Value.int .i64) (by omega), by rw [HN.out, ← Int.add_assoc], by omega⟩
          case measure => simp [intOf]; omega
        · have hD1b : -1 ≤ D0 + Vs.ysum 1970 n ∧ D0 + Vs.ysum 1970 n ≤ 100000 := by omega
          generalize hD1 : D0 + Vs.ysum 1970 n = D1 at hD1b ⊢
          have HD1 := Lib.hid hD1
          have HNY := Lib.hid (show (n : Int) = 0 ∨ 1970 + (n : Int) ≤ y from hny)
          have HNG := Lib.hid (show ¬ (1970 + (n : Int) < y) from hgo)
          clear hys hD1 hny
          go_wp2_with fail
          clear hgo
          go_loop [3, 6] (fun dv yv => ∃ p : Nat, yv = .int .i64 (y + (p : Int)) ∧ dv = .int .i64 (D1 - Vs.ysum y p) ∧ ((p : Int) = 0 ∨ y + (p : Int) ≤ 1970)) (fun _ yv => (1970 - intOf yv).toNat)
          case atStart => exact ⟨0, by simp, by simp [Vs.ysum], .inl rfl⟩
          case round =>
            obtain ⟨p, rfl, rfl, hpy⟩ := hrel
            have hys := Vs.ysum_bd y p
            by_cases hgo3 : y + (p : Int) < 1970
            · have CY := Lib.hid (fun W => yearDays_any (y + (p : Int)) (by omega) (by omega) W)
              have hyb := Vs.ydays_bd (y + (p : Int))
              have HN := Lib.hid (show Vs.ysum y (p + 1) = Vs.ysum y p + Vs.ydays (y + (p : Int)) from rfl)
              generalize Vs.ydays (y + (p : Int)) = yd at *
              generalize Vs.ysum y p = ys at *
              go_wp2_with fail
              with_reducible refine (CY.out _).mono ?_
              rintro e w2 ⟨rfl, hw2⟩
              subst hw2
              go_wp2_with fail
              go_round
              case rel => exact ⟨p + 1, by first | rfl | exact congrArg (Value.int .i64) (by omega), by rw [HN.out]; exact congrArg (Value.int .i64) (by omega), by omega⟩
              case measure => simp [intOf]; omega
            · have HE := Lib.hid (show D1 - Vs.ysum y p = D0 + Vs.yto y from by
                have hd1 := HD1.out
                have hn1 := HNY.out
                unfold Vs.yto
                by_cases hy : y < 1970
                · rw [if_pos hy]
                  have hn0 : n = 0 := by omega
                  subst hn0
                  have e0 : Vs.ysum 1970 0 = 0 := rfl
                  have hp : (1970 - y).toNat = p := by omega
                  rw [hp]
                  omega
                · rw [if_neg hy]
                  have hp0 : p = 0 := by omega
                  subst hp0
                  have e0 : Vs.ysum y 0 = 0 := rfl
                  have hn2 : (y - 1970).toNat = n := by have := HNG.out; omega
                  rw [hn2]
                  omega)
              have hD2b : -100000 ≤ D1 - Vs.ysum y p ∧ D1 - Vs.ysum y p ≤ 100000 := by omega
              generalize hD2 : D1 - Vs.ysum y p = D2 at hD2b HE ⊢
              have HR := Lib.hid (show D2 * 86400 + hh * 3600 + mi * 60 + s = Vs.secs ⟨y, m, d, hh, mi, s⟩ from by
                have h1 := HSEC2.out
                have h2 := HE.out
                have h3 := HD0.out
                rw [h1]
                omega)
              clear hys hD2 HE HNY HD1 HNG hpy
              go_wp2_with fail
              go_ret
              rw [HR.out]
              exact ⟨rfl, HB.out.trans (hbw.mono HSZ.out)⟩
end Go.Proofs.YthkppbimkjmbnaaGreatDoor

/-
  The walks through datetime.Join, read, ReadStamp.
-/
namespace Go.Proofs.YthkppbimkjmbnaaGreatDoor
open Go.RowKit
open Vs (bs by_)
namespace Vs
/-- What Join and read return. -/
def joinR (c : C) (zone : Int) : Int × Int :=
  if okC c = true then (if -1440 ≤ zone ∧ zone ≤ 1440 then (if isTime (secs c - 60 * zone) = true then (secs c - 60 * zone, 0) else (0, 2)) else (0, 2)) else (0, 1)
theorem secs_bd {c : C} (h : okC c = true) : -10000000000 ≤ secs c ∧ secs c ≤ 10000000000 := by
  obtain ⟨q1, q2, q3, q4, q5, q6, q7, q8, q9, q10, q11, q12⟩ := (okC_iff c).1 h
  have hmd := mdays_bd c.y c.m
  have hms := msum_bd c.y (c.m - 1).toNat
  have hyt : -30000 ≤ yto c.y ∧ yto c.y ≤ 80000 := by
    unfold yto
    split
    · have := ysum_bd c.y (1970 - c.y).toNat
      omega
    · have := ysum_bd 1970 (c.y - 1970).toNat
      omega
  unfold secs
  omega
end Vs

set_option maxHeartbeats 3200000 in
set_option maxRecDepth 100000 in
/-- datetime.Join. -/
theorem join_any (c : Vs.C) (zone : Int) (w : World) : Calls Tryz.prog 220 #[.agg (Vs.cC c), .int .i64 zone] w fun e w' => e = .returned (.tuple #[.int .i64 (Vs.joinR c zone).1, .int .i64 (Vs.joinR c zone).2]) ∧ Below w.heap.size w w' := by
  have CV := Lib.hid (fun W => valid_any c W)
  have CZ := Lib.hid (fun W => isZone_any zone W)
  have HR := Lib.hid (show Vs.joinR c zone = if Vs.okC c = true then (if -1440 ≤ zone ∧ zone ≤ 1440 then (if Vs.isTime (Vs.secs c - 60 * zone) = true then (Vs.secs c - 60 * zone, 0) else (0, 2)) else (0, 2)) else (0, 1) from rfl)
  have HB := Lib.hid ((Below.refl w.heap.size w).alloc (Nat.le_refl _) (.cells (Vs.cC c) 161))
  have HN := Lib.hid (heap_alloc_new w (.cells (Vs.cC c) 161))
  have HS := Lib.hid (fun (h : Vs.okC c = true) => And.intro (Vs.secs_bd h) (fun W => seconds_any c W h))
  obtain ⟨y, m, d, hh, mi, s⟩ := c
  unfold Vs.cC at *
  simp only [] at *
  cases h : Vs.okC ⟨y, m, d, hh, mi, s⟩ with
  | false =>
    rw [h] at CV
    have HR2 := Lib.hid (HR.out.trans (if_neg (by rw [h]; decide)))
    rw [HR2.out]
    clear h HR HR2 HS
    go_enter Tryz.func220, Tryz.ntmps220
    go_wp2_with fail
    with_reducible refine (CV.out _).mono ?_
    rintro e w2 ⟨rfl, hb2⟩
    have HB2 := Lib.hid (HB.out.trans (hb2.mono HB.out.size))
    clear hb2
    go_wp2_with fail
    go_ret2
    exact ⟨rfl, HB2.out⟩
  | true =>
  rw [h] at CV
  have HR1 := Lib.hid (HR.out.trans (if_pos h))
  obtain ⟨hsb, hsc⟩ := HS.out h
  have CS := Lib.hid hsc
  clear HR HS h hsc
  by_cases hz : -1440 ≤ zone ∧ zone ≤ 1440
  case neg =>
    have HR2 := Lib.hid (HR1.out.trans (if_neg hz))
    have hzb : (decide (-1440 ≤ zone) && decide (zone ≤ 1440)) = false := by
      rw [Bool.eq_false_iff]
      intro h
      rw [Bool.and_eq_true, decide_eq_true_eq, decide_eq_true_eq] at h
      exact hz h
    rw [hzb] at CZ
    rw [HR2.out]
    clear HR1 HR2 hz hzb
    go_enter Tryz.func220, Tryz.ntmps220
    go_wp2_with fail
    with_reducible refine (CV.out _).mono ?_
    rintro e w2 ⟨rfl, hb2⟩
    have HB2 := Lib.hid (HB.out.trans (hb2.mono HB.out.size))
    clear hb2
    go_wp2_with fail
    with_reducible refine (CZ.out _).mono ?_
    rintro e w3 ⟨rfl, hw⟩
    subst hw
    go_wp2_with fail
    go_ret2
    exact ⟨rfl, HB2.out⟩
  have HR2 := Lib.hid (HR1.out.trans (if_pos hz))
  have hzb : (decide (-1440 ≤ zone) && decide (zone ≤ 1440)) = true := by
    rw [Bool.and_eq_true, decide_eq_true_eq, decide_eq_true_eq]
    exact hz
  rw [hzb] at CZ
  have CT := Lib.hid (fun W => isTime_any (Vs.secs ⟨y, m, d, hh, mi, s⟩ - 60 * zone) W)
  generalize Vs.secs ⟨y, m, d, hh, mi, s⟩ = S at *
  clear HR1 hzb
  cases ht : Vs.isTime (S - 60 * zone) with
  | false =>
    rw [ht] at CT
    have HR3 := Lib.hid (HR2.out.trans (if_neg (by rw [ht]; decide)))
    rw [HR3.out]
    clear HR2 HR3 ht
    go_enter Tryz.func220, Tryz.ntmps220
    go_wp2_with fail
    with_reducible refine (CV.out _).mono ?_
    rintro e w2 ⟨rfl, hb2⟩
    have HB2 := Lib.hid (HB.out.trans (hb2.mono HB.out.size))
    have hN2 := (hb2.block w.heap.size (by simp)).trans HN.out
    have c0 := cell_of_row _ _ 0 _ _ _ hN2
    have c1 := cell_of_row _ _ 1 _ _ _ hN2
    have c2 := cell_of_row _ _ 2 _ _ _ hN2
    have c3 := cell_of_row _ _ 3 _ _ _ hN2
    have c4 := cell_of_row _ _ 4 _ _ _ hN2
    have c5 := cell_of_row _ _ 5 _ _ _ hN2
    simp only [List.getElem?_toArray, List.getElem?_cons_zero, List.getElem?_cons_succ] at c0 c1 c2 c3 c4 c5
    clear hb2 hN2
    go_wp2_with fail
    with_reducible refine (CZ.out _).mono ?_
    rintro e w3 ⟨rfl, hw⟩
    subst hw
    go_wp2_with fail
    with_reducible refine (CS.out _).mono ?_
    rintro e w4 ⟨rfl, hb4⟩
    have HB4 := Lib.hid (HB2.out.trans (hb4.mono HB2.out.size))
    clear hb4 c0 c1 c2 c3 c4 c5
    go_wp2_with fail
    with_reducible refine (CT.out _).mono ?_
    rintro e w5 ⟨rfl, hw⟩
    subst hw
    go_wp2_with fail
    go_ret2
    exact ⟨rfl, HB4.out⟩
  | true =>
    rw [ht] at CT
    have HR3 := Lib.hid (HR2.out.trans (if_pos (by rw [ht])))
    rw [HR3.out]
    clear HR2 HR3 ht
    go_enter Tryz.func220, Tryz.ntmps220
    go_wp2_with fail
    with_reducible refine (CV.out _).mono ?_
    rintro e w2 ⟨rfl, hb2⟩
    have HB2 := Lib.hid (HB.out.trans (hb2.mono HB.out.size))
    have hN2 := (hb2.block w.heap.size (by simp)).trans HN.out
    have c0 := cell_of_row _ _ 0 _ _ _ hN2
    have c1 := cell_of_row _ _ 1 _ _ _ hN2
    have c2 := cell_of_row _ _ 2 _ _ _ hN2
    have c3 := cell_of_row _ _ 3 _ _ _ hN2
    have c4 := cell_of_row _ _ 4 _ _ _ hN2
    have c5 := cell_of_row _ _ 5 _ _ _ hN2
    simp only [List.getElem?_toArray, List.getElem?_cons_zero, List.getElem?_cons_succ] at c0 c1 c2 c3 c4 c5
    clear hb2 hN2
    go_wp2_with fail
    with_reducible refine (CZ.out _).mono ?_
    rintro e w3 ⟨rfl, hw⟩
    subst hw
    go_wp2_with fail
    with_reducible refine (CS.out _).mono ?_
    rintro e w4 ⟨rfl, hb4⟩
    have HB4 := Lib.hid (HB2.out.trans (hb4.mono HB2.out.size))
    clear hb4 c0 c1 c2 c3 c4 c5
    go_wp2_with fail
    with_reducible refine (CT.out _).mono ?_
    rintro e w5 ⟨rfl, hw⟩
    subst hw
    go_wp2_with fail
    go_ret2
    exact ⟨rfl, HB4.out⟩

namespace Vs
/-- What read returns. -/
def dreadR (c : C) (zone : Int) (right : Bool) : (Int × Int) × Int :=
  if (right && okC c) = true then (if (joinR c zone).2 = 0 then (((joinR c zone).1, zone), 0) else ((0, 0), 2)) else ((0, 0), 10)
end Vs

set_option maxHeartbeats 3200000 in
set_option maxRecDepth 100000 in
/-- datetime.read. -/
theorem dread_any (c : Vs.C) (zone : Int) (right : Bool) (w : World) : Calls Tryz.prog 159 #[.agg (Vs.cC c), .int .i64 zone, .bool right] w fun e w' => e = .returned (.tuple #[.int .i64 (Vs.dreadR c zone right).1.1, .int .i64 (Vs.dreadR c zone right).1.2, .int .i64 (Vs.dreadR c zone right).2]) ∧ Below w.heap.size w w' := by
  have CV := Lib.hid (fun W => valid_any c W)
  have CJ := Lib.hid (fun W => join_any c zone W)
  have HR := Lib.hid (show Vs.dreadR c zone right = if (right && Vs.okC c) = true then (if (Vs.joinR c zone).2 = 0 then (((Vs.joinR c zone).1, zone), 0) else ((0, 0), 2)) else ((0, 0), 10) from rfl)
  have HB := Lib.hid ((Below.refl w.heap.size w).alloc (Nat.le_refl _) (.cells (Vs.cC c) 161))
  have HN := Lib.hid (heap_alloc_new w (.cells (Vs.cC c) 161))
  generalize Vs.joinR c zone = jr at *
  obtain ⟨j1, j2⟩ := jr
  simp only [] at *
  obtain ⟨y, m, d, hh, mi, s⟩ := c
  unfold Vs.cC at *
  simp only [] at *
  cases right with
  | false =>
    have HR2 := Lib.hid (HR.out.trans (if_neg (by simp)))
    rw [HR2.out]
    clear HR HR2
    go_enter Tryz.func159, Tryz.ntmps159
    go_wp2_with fail
    go_ret3
    exact ⟨rfl, HB.out⟩
  | true =>
  rw [Bool.true_and] at HR
  cases h : Vs.okC ⟨y, m, d, hh, mi, s⟩ with
  | false =>
    rw [h] at CV
    have HR2 := Lib.hid (HR.out.trans (if_neg (by rw [h]; decide)))
    rw [HR2.out]
    clear h HR HR2
    go_enter Tryz.func159, Tryz.ntmps159
    go_wp2_with fail
    with_reducible refine (CV.out _).mono ?_
    rintro e w2 ⟨rfl, hb2⟩
    have HB2 := Lib.hid (HB.out.trans (hb2.mono HB.out.size))
    clear hb2
    go_wp2_with fail
    go_ret3
    exact ⟨rfl, HB2.out⟩
  | true =>
  rw [h] at CV
  have HR1 := Lib.hid (HR.out.trans (if_pos h))
  clear HR h
  by_cases he : j2 = 0
  · have HR2 := Lib.hid (HR1.out.trans (if_pos he))
    rw [HR2.out]
    subst he
    clear HR1 HR2
    go_enter Tryz.func159, Tryz.ntmps159
    go_wp2_with fail
    with_reducible refine (CV.out _).mono ?_
    rintro e w2 ⟨rfl, hb2⟩
    have HB2 := Lib.hid (HB.out.trans (hb2.mono HB.out.size))
    have hN2 := (hb2.block w.heap.size (by simp)).trans HN.out
    have c0 := cell_of_row _ _ 0 _ _ _ hN2
    have c1 := cell_of_row _ _ 1 _ _ _ hN2
    have c2 := cell_of_row _ _ 2 _ _ _ hN2
    have c3 := cell_of_row _ _ 3 _ _ _ hN2
    have c4 := cell_of_row _ _ 4 _ _ _ hN2
    have c5 := cell_of_row _ _ 5 _ _ _ hN2
    simp only [List.getElem?_toArray, List.getElem?_cons_zero, List.getElem?_cons_succ] at c0 c1 c2 c3 c4 c5
    clear hb2 hN2
    go_wp2_with fail
    with_reducible refine (CJ.out _).mono ?_
    rintro e w3 ⟨rfl, hb3⟩
    have HB3 := Lib.hid (HB2.out.trans (hb3.mono HB2.out.size))
    clear hb3 c0 c1 c2 c3 c4 c5
    go_wp2_with fail
    go_ret3
    exact ⟨rfl, HB3.out⟩
  · have HR2 := Lib.hid (HR1.out.trans (if_neg he))
    have hne : (j2 != 0) = true := by rw [bne_iff_ne]; exact he
    have hne2 : (j2 == 0) = false := by rw [beq_eq_false_iff_ne]; exact he
    rw [HR2.out]
    clear HR1 HR2 he
    go_enter Tryz.func159, Tryz.ntmps159
    go_wp2_with fail
    with_reducible refine (CV.out _).mono ?_
    rintro e w2 ⟨rfl, hb2⟩
    have HB2 := Lib.hid (HB.out.trans (hb2.mono HB.out.size))
    have hN2 := (hb2.block w.heap.size (by simp)).trans HN.out
    have c0 := cell_of_row _ _ 0 _ _ _ hN2
    have c1 := cell_of_row _ _ 1 _ _ _ hN2
    have c2 := cell_of_row _ _ 2 _ _ _ hN2
    have c3 := cell_of_row _ _ 3 _ _ _ hN2
    have c4 := cell_of_row _ _ 4 _ _ _ hN2
    have c5 := cell_of_row _ _ 5 _ _ _ hN2
    simp only [List.getElem?_toArray, List.getElem?_cons_zero, List.getElem?_cons_succ] at c0 c1 c2 c3 c4 c5
    clear hb2 hN2
    go_wp2_with fail
    with_reducible refine (CJ.out _).mono ?_
    rintro e w3 ⟨rfl, hb3⟩
    have HB3 := Lib.hid (HB2.out.trans (hb3.mono HB2.out.size))
    clear hb3 c0 c1 c2 c3 c4 c5
    go_wp2_with fail
    go_ret3
    exact ⟨rfl, HB3.out⟩
end Go.Proofs.YthkppbimkjmbnaaGreatDoor

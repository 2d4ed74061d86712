/-
  The walks through datetime.Split and Stamp, in the zone 0.
-/
import Derived.Test.YthkppbimkjmbnaaGreatDoorZH
import Derived.Laws.ResultCell
import Derived.Test.YthkppbimkjmbnaaGreatDoorZE
import Derived.Shelf.Strings.BuilderRune
import Derived.Test.YthkppbimkjmbnaaGreatDoorProg
import Derived.Test.YthkppbimkjmbnaaGreatDoorZA
import Derived.Test.YthkppbimkjmbnaaGreatDoorShelf
import Derived.Test.YthkppbimkjmbnaaGreatDoorZD
namespace Go.Proofs.YthkppbimkjmbnaaGreatDoor
open Go.RowKit
namespace Vs
theorem yearF_go {f : Nat} {d y : Int} (h : ydays y ≤ d) : yearF (f + 1) d y = yearF f (d - ydays y) (y + 1) := if_pos h
theorem yearF_stop {f : Nat} {d y : Int} (h : ¬ ydays y ≤ d) : yearF f d y = (d, y) := by
  cases f with
  | zero => rfl
  | succ f => exact if_neg h
theorem monthF_go {f : Nat} {y d m : Int} (h : mdays y m ≤ d) : monthF (f + 1) y d m = monthF f y (d - mdays y m) (m + 1) := if_pos h
theorem monthF_stop {f : Nat} {y d m : Int} (h : ¬ mdays y m ≤ d) : monthF f y d m = (d, m) := by
  cases f with
  | zero => rfl
  | succ f => exact if_neg h
structure Ck (w : World) (y m hh mi se : Int) (wr : World) : Prop where
  z : wr.heap[w.heap.size]? = some (.cells #[.int .i64 0, .int .i64 0, .int .i64 0, .int .i64 0, .int .i64 0, .int .i64 0] 161 (0, 0))
  c : wr.heap[w.heap.size + 1]? = some (.cells #[.int .i64 y, .int .i64 m, .int .i64 0, .int .i64 hh, .int .i64 mi, .int .i64 se] 161 (0, 0))
  b : Below w.heap.size w wr
theorem Ck.lt {w wr : World} {y m hh mi se : Int} (h : Ck w y m hh mi se wr) : w.heap.size + 1 < wr.heap.size := (Array.getElem?_eq_some_iff.1 h.c).1
theorem Ck.below {w wr w2 : World} {y m hh mi se : Int} (h : Ck w y m hh mi se wr) (hb : Below wr.heap.size wr w2) : Ck w y m hh mi se w2 := by
  have hl := h.lt
  exact ⟨(hb.block _ (by omega)).trans h.z, (hb.block _ hl).trans h.c, h.b.trans (hb.mono (by omega))⟩
theorem Ck.new (w : World) (y m hh mi se : Int) : Ck w y m hh mi se ((w.alloc (.cells #[.int .i64 0, .int .i64 0, .int .i64 0, .int .i64 0, .int .i64 0, .int .i64 0] 161)).alloc (.cells #[.int .i64 y, .int .i64 m, .int .i64 0, .int .i64 hh, .int .i64 mi, .int .i64 se] 161)) := by
  refine ⟨?_, ?_, ((Below.refl _ _).alloc (Nat.le_refl _) _).alloc (by simp) _⟩
  · exact heap_alloc2_old _ _ _
  · exact heap_alloc2_new _ _ _
theorem Ck.cell {w wr : World} {y m hh mi se : Int} (h : Ck w y m hh mi se wr) (j : Nat) : wr.cell? ⟨w.heap.size + 1, j, none⟩ = (#[.int .i64 y, .int .i64 m, .int .i64 0, .int .i64 hh, .int .i64 mi, .int .i64 se] : Array Value)[j]? := cell_of_row _ _ _ _ _ _ h.c
theorem Ck.cellz {w wr : World} {y m hh mi se : Int} (h : Ck w y m hh mi se wr) (j : Nat) : wr.cell? ⟨w.heap.size, j, none⟩ = (#[.int .i64 0, .int .i64 0, .int .i64 0, .int .i64 0, .int .i64 0, .int .i64 0] : Array Value)[j]? := cell_of_row _ _ _ _ _ _ h.z
theorem Ck.frz {w wr : World} {y m hh mi se : Int} (h : Ck w y m hh mi se wr) (j : Nat) : wr.frozen? ⟨w.heap.size + 1, j, none⟩ = false := frozen_of_row _ _ _ _ _ h.c
theorem Ck.frzz {w wr : World} {y m hh mi se : Int} (h : Ck w y m hh mi se wr) (j : Nat) : wr.frozen? ⟨w.heap.size, j, none⟩ = false := frozen_of_row _ _ _ _ _ h.z
theorem Ck.setM {w wr : World} {y m hh mi se : Int} (h : Ck w y m hh mi se wr) (m' : Int) : Ck w y m' hh mi se (wr.setCell ⟨w.heap.size + 1, 1, none⟩ (.int .i64 m')) := by
  refine ⟨(heap_setCell_other _ _ _ _ (by simp)).trans h.z, (heap_setCell_same _ _ 1 _ _ _ h.c).trans ?_, h.b.setCell (by simp) _⟩
  rfl
theorem clock_results (tmps : Array Value) (W : World) (g : Nat) (cs : List Value) (x : Value) (h6 : cs.length = 6) (h2 : tmps.getD 4 undef = .pointer (some ⟨g, 0, none⟩)) (h3 : tmps.getD 5 undef = x)
    (hc : ∀ j v, cs[j]? = some v → W.cell? ⟨g, j, none⟩ = some v) : (results Tryz.f200 tmps).run Tryz.prog W = .ok (.tuple #[.agg cs.toArray, x]) W := by
  have hl : (loadCells ⟨g, 0, none⟩ cs.length).run Tryz.prog W = .ok cs.toArray W := run_loadCells_list (P := Tryz.prog) W ⟨g, 0, none⟩ cs (fun j v hv => by rw [Addr.add_lit, Nat.zero_add]; exact hc j v hv)
  rw [h6] at hl
  have ha : ∀ w : World, (isAgg 161).run Tryz.prog w = .ok true w := fun _ => by kernel_rfl
  have hs : ∀ w : World, (sizeOf 161).run Tryz.prog w = .ok 6 w := fun _ => by kernel_rfl
  have hv : (loadVar 161 ⟨g, 0, none⟩).run Tryz.prog W = .ok (.agg cs.toArray) W := by
    simp [loadVar, ha, hs, hl]
  rw [Array.getD_eq_getD_getElem?] at h2 h3
  simp [results, h2, h3, hv, asAddr]
/-- Six cells written, one after the other. -/
theorem set6 (W : World) (g : Nat) (u0 u1 u2 u3 u4 u5 : Value) (h : ∀ j, j < 6 → ∃ x, W.cell? ⟨g, j, none⟩ = some x) : ∀ j v, ([u0, u1, u2, u3, u4, u5] : List Value)[j]? = some v →
    ((((((W.setCell ⟨g, 0, none⟩ u0).setCell ⟨g, 1, none⟩ u1).setCell ⟨g, 2, none⟩ u2).setCell ⟨g, 3, none⟩ u3).setCell ⟨g, 4, none⟩ u4).setCell ⟨g, 5, none⟩ u5).cell? ⟨g, j, none⟩ = some v := by
  obtain ⟨x0, h0⟩ := h 0 (by omega)
  obtain ⟨x1, h1⟩ := h 1 (by omega)
  obtain ⟨x2, h2⟩ := h 2 (by omega)
  obtain ⟨x3, h3⟩ := h 3 (by omega)
  obtain ⟨x4, h4⟩ := h 4 (by omega)
  obtain ⟨x5, h5⟩ := h 5 (by omega)
  intro j v hv
  rcases j with _ | _ | _ | _ | _ | _ | j
  all_goals (simp at hv; try subst hv)
  all_goals simp [World.cell?_setCell_other, World.cell?_setCell_same, h0, h1, h2, h3, h4, h5]
/-- A clock's cells. -/
def cC (c : C) : Array Value := #[.int .i64 c.y, .int .i64 c.m, .int .i64 c.d, .int .i64 c.h, .int .i64 c.mi, .int .i64 c.s]
end Vs

set_option maxHeartbeats 12800000 in
set_option maxRecDepth 100000 in
/-- datetime.Split in the zone 0. -/
theorem split_any (t : Int) (w : World) (ht : Vs.isTime t = true) : Calls Tryz.prog 200 #[.int .i64 t, .int .i64 0] w fun e w' => e = .returned (.tuple #[.agg (Vs.cC (Vs.splitR t)), .int .i64 0]) ∧ Below w.heap.size w w' := by
  have C1 := Lib.hid (fun W => isTime_any t W)
  have C2 := Lib.hid (fun W => isZone_any 0 W)
  obtain ⟨h0, h1⟩ := (Vs.isTime_iff t).1 ht
  rw [ht] at C1
  have HS := Lib.hid (show Vs.splitR t = ⟨(Vs.yearF 200 (t / 86400) 1970).2, (Vs.monthF 12 (Vs.yearF 200 (t / 86400) 1970).2 (Vs.yearF 200 (t / 86400) 1970).1 1).2, (Vs.monthF 12 (Vs.yearF 200 (t / 86400) 1970).2 (Vs.yearF 200 (t / 86400) 1970).1 1).1 + 1, t % 86400 / 3600, t % 86400 / 60 % 60, t % 86400 % 60⟩ from rfl)
  rw [HS.out]
  clear HS ht
  obtain ⟨D, hD⟩ : ∃ D : Int, t / 86400 = D := ⟨_, rfl⟩
  obtain ⟨S, hS⟩ : ∃ S : Int, t % 86400 = S := ⟨_, rfl⟩
  have hD0 : 0 ≤ D ∧ D ≤ 60000 := by omega
  have hS0 : 0 ≤ S ∧ S < 86400 := by omega
  rw [hD, hS]
  go_enter Tryz.func200, Tryz.ntmps200
  go_wp2_with fail
  with_reducible refine (C1.out _).mono ?_
  rintro e w2 ⟨rfl, rfl⟩
  go_wp2_with fail
  with_reducible refine (C2.out _).mono ?_
  rintro e w2 ⟨rfl, rfl⟩
  go_wp2_with fail
  rw [hD]
  try rw [hS]
  have HD := Lib.hid hD0
  have HDD := Lib.hid hD
  have HSS := Lib.hid hS
  clear hD hS C1 C2
  obtain ⟨hh, hhe⟩ : ∃ hh : Int, S / 3600 = hh := ⟨_, rfl⟩
  obtain ⟨mi, hmie⟩ : ∃ mi : Int, S / 60 % 60 = mi := ⟨_, rfl⟩
  obtain ⟨se, hsee⟩ : ∃ se : Int, S % 60 = se := ⟨_, rfl⟩
  rw [hhe, hmie, hsee]
  have HH1 := Lib.hid hhe
  have HH2 := Lib.hid hmie
  have HH3 := Lib.hid hsee
  clear hhe hmie hsee hS0 HSS
  go_loopw [7] (fun dv wr => ∃ (f : Nat) (d y : Int), dv = .int .i64 d ∧ wr = (w.alloc (.cells #[.int .i64 0, .int .i64 0, .int .i64 0, .int .i64 0, .int .i64 0, .int .i64 0] 161)).alloc (.cells #[.int .i64 y, .int .i64 1, .int .i64 0, .int .i64 hh, .int .i64 mi, .int .i64 se] 161) ∧ Hid (Vs.yearF f d y = Vs.yearF 200 D 1970) ∧ 0 ≤ d ∧ d < 365 * f ∧ 1970 ≤ y ∧ y + f ≤ 2170) (fun dv _ => (intOf dv).toNat)
  case atStart => exact ⟨200, D, 1970, rfl, rfl, Lib.hid rfl, by omega, by omega, by omega, by omega⟩
  case round =>
    obtain ⟨f, d, y, rfl, rfl, HY, hd0, hd1, hy0, hy1⟩ := hrel
    have hyb := Vs.ydays_bd y
    have CY := Lib.hid (fun W => yearDays_any y (by omega) (by omega) W)
    by_cases hgo : Vs.ydays y ≤ d
    · obtain ⟨f', rfl⟩ : ∃ f' : Nat, f = f' + 1 := ⟨f - 1, by omega⟩
      have HN := Lib.hid ((Vs.yearF_go (f := f') hgo).symm.trans HY.out)
      clear HY
      generalize Vs.ydays y = yd at *
      go_wp2_with fail
      with_reducible refine (CY.out _).mono ?_
      rintro e w2 ⟨rfl, hw2⟩
      subst hw2
      go_wp2_with fail
      with_reducible refine (CY.out _).mono ?_
      rintro e w2 ⟨rfl, hw2⟩
      subst hw2
      go_wp2_with fail
      go_roundw
      case rel => exact ⟨f', d - yd, y + 1, rfl, rfl, HN, by omega, by omega, by omega, by omega⟩
      case measure => simp [intOf]; omega
    · have HE := Lib.hid ((Vs.yearF_stop (f := f) hgo).symm.trans HY.out)
      have hd2 : d < Vs.ydays y := by omega
      have HB := Lib.hid (show Vs.msum y 0 + d < Vs.ydays y by simpa [Vs.msum] using hd2)
      clear HY HD HDD hd1
      have hgo2 := hgo
      go_wp2_with fail
      with_reducible refine (CY.out _).mono ?_
      rintro e w2 ⟨rfl, hw2⟩
      subst hw2
      go_wp2_with fail
      have hd400 : d ≤ 400 := by omega
      clear hgo hgo2 hd2 CY
      obtain ⟨d1, hd1⟩ : ∃ d1, d1 = d := ⟨_, rfl⟩
      have HD1 := Lib.hid hd1
      clear hd1
      go_loopw [7] (fun dv wr => ∃ (f k : Nat) (d m : Int), dv = .int .i64 d ∧ Hid (Vs.Ck w y m hh mi se wr) ∧ Hid (m = k + 1) ∧ Hid (Vs.monthF f y d m = Vs.monthF 12 y d1 1) ∧ 0 ≤ d ∧ d ≤ 400 ∧ Hid (Vs.msum y k + d < Vs.ydays y) ∧ f + k = 12) (fun dv _ => (intOf dv).toNat)
      case atStart => exact ⟨12, 0, d, 1, rfl, Lib.hid (Vs.Ck.new w y 1 hh mi se), Lib.hid rfl, Lib.hid (by rw [HD1.out]), hd0, by omega, HB, rfl⟩
      case round =>
        clear HB
        obtain ⟨f, k, d, m, rfl, HC, HM, HF, hd0, hd4, HB, hfk⟩ := hrel
        have hk : k < 12 := by
          rcases Nat.lt_or_ge k 12 with h | h
          · exact h
          · have h12 : k = 12 := by omega
            have := HB.out
            rw [h12, Vs.msum_12] at this
            omega
        have hm0 := HM.out
        have hm1 : 1 ≤ m := by omega
        have hm2 : m ≤ 12 := by omega
        have hmb := Vs.mdays_bd y m
        have CM := Lib.hid (fun W => monthDays_any y m (by omega) (by omega) hm1 hm2 W)
        clear hm0
        have c0 := HC.out.cell 0
        have c1 := HC.out.cell 1
        simp only [List.getElem?_toArray, List.getElem?_cons_zero, List.getElem?_cons_succ] at c0 c1
        by_cases hgo : Vs.mdays y m ≤ d
        · obtain ⟨f', rfl⟩ : ∃ f' : Nat, f = f' + 1 := ⟨f - 1, by omega⟩
          have HN := Lib.hid ((Vs.monthF_go (f := f') hgo).symm.trans HF.out)
          have HB2 := Lib.hid (show Vs.msum y (k + 1) + (d - Vs.mdays y m) < Vs.ydays y by
            have h := HB.out
            have hs : Vs.msum y (k + 1) = Vs.msum y k + Vs.mdays y (k + 1) := rfl
            rw [hs, ← HM.out]
            omega)
          clear HF HB
          generalize Vs.mdays y m = md at *
          go_wp2_with fail
          with_reducible refine (CM.out _).mono ?_
          rintro e w2 ⟨rfl, hb2⟩
          have HC2 := Lib.hid (HC.out.below hb2)
          clear c0 c1 hb2
          have c0 := HC2.out.cell 0
          have c1 := HC2.out.cell 1
          simp only [List.getElem?_toArray, List.getElem?_cons_zero, List.getElem?_cons_succ] at c0 c1
          go_wp2_with fail
          with_reducible refine (CM.out _).mono ?_
          rintro e w3 ⟨rfl, hb3⟩
          have HC3 := Lib.hid (HC2.out.below hb3)
          clear c0 c1 hb3
          have c1 := HC3.out.cell 1
          have fz := HC3.out.frz 1
          simp only [List.getElem?_toArray, List.getElem?_cons_zero, List.getElem?_cons_succ] at c1
          go_wp2_with fail
          go_roundw
          case rel => exact ⟨f', k + 1, d - md, m + 1, rfl, Lib.hid (HC3.out.setM _), Lib.hid (by have := HM.out; omega), HN, by omega, by omega, HB2, by omega⟩
          case measure => simp [intOf]; omega
        · have HN := Lib.hid ((Vs.monthF_stop (f := f) hgo).symm.trans HF.out)
          clear HF HB
          generalize Vs.mdays y m = md at *
          go_wp2_with fail
          with_reducible refine (CM.out _).mono ?_
          rintro e w2 ⟨rfl, hb2⟩
          have HC2 := Lib.hid (HC.out.below hb2)
          clear c0 c1 hb2
          have c0 := HC2.out.cell 0
          have c1 := HC2.out.cell 1
          have c2 := HC2.out.cell 2
          have c3 := HC2.out.cell 3
          have c4 := HC2.out.cell 4
          have c5 := HC2.out.cell 5
          have z0 := HC2.out.cellz 0
          have z1 := HC2.out.cellz 1
          have z2 := HC2.out.cellz 2
          have z3 := HC2.out.cellz 3
          have z4 := HC2.out.cellz 4
          have z5 := HC2.out.cellz 5
          have fz2 := HC2.out.frz 2
          have fq := HC2.out.frzz
          simp only [List.getElem?_toArray, List.getElem?_cons_zero, List.getElem?_cons_succ] at c0 c1 c2 c3 c4 c5 z0 z1 z2 z3 z4 z5
          have hd31 : d < 31 := by omega
          go_wp2_with fail
          (try simp only [Exit.inBlock, Exit.then])
          refine bodyPost_ret (Vs.clock_results _ _ w.heap.size [.int .i64 y, .int .i64 m, .int .i64 (d + 1), .int .i64 hh, .int .i64 mi, .int .i64 se] (.int .i64 0) rfl rfl rfl (Vs.set6 _ _ _ _ _ _ _ _ ?_)) rfl ⟨?_, ?_⟩
          · intro j hj
            refine ⟨.int .i64 0, ?_⟩
            rw [World.cell?_setCell_other _ _ _ _ (by simp)]
            refine (HC2.out.cellz j).trans ?_
            rcases j with _ | _ | _ | _ | _ | _ | j
            all_goals first | rfl | omega
          · have hN := HN.out
            rw [HD1.out] at hN
            have hE := HE.out
            rw [← hE]
            simp only []
            rw [← hN, HH1.out, HH2.out, HH3.out]
            rfl
          · exact ((((((HC2.out.b.setCell (by simp) _).setCell (by simp) _).setCell (by simp) _).setCell (by simp) _).setCell (by simp) _).setCell (by simp) _).setCell (by simp) _
end Go.Proofs.YthkppbimkjmbnaaGreatDoor

/-
  The walk through datetime.Stamp, in the zone 0.
-/
namespace Go.Proofs.YthkppbimkjmbnaaGreatDoor
open Go.RowKit
open Vs (bs by_)

set_option maxHeartbeats 6400000 in
set_option maxRecDepth 100000 in
/-- datetime.Stamp in the zone 0. -/
theorem stamp_any (t : Int) (w : World) (ht : Vs.isTime t = true) : Calls Tryz.prog 132 #[.int .i64 t, .int .i64 0] w fun e w' => e = .returned (.tuple #[.string (bs (Vs.stampR t)), .int .i64 0]) ∧ Below w.heap.size w w' := by
  have CS := Lib.hid (fun W => split_any t W ht)
  obtain ⟨hok, _, hy0, hy1⟩ := Vs.split_ok ht
  have HR := Lib.hid (show Vs.stampR t = Vs.stampC (Vs.splitR t) from if_pos ht)
  obtain ⟨q1, q2, q3, q4, q5, q6, q7, q8, q9, q10, q11, q12⟩ := (Vs.okC_iff _).1 hok
  have hmd := Vs.mdays_bd (Vs.splitR t).y (Vs.splitR t).m
  clear ht hok
  generalize Vs.splitR t = c at *
  obtain ⟨y, m, d, hh, mi, s⟩ := c
  simp only [] at *
  unfold Vs.cC at CS
  have hd : d ≤ 31 := by omega
  have hb1 : bits BinOp.and IntKind.i64 0 4095 = 0 := by decide
  have hb2 : bits BinOp.or IntKind.i64 4096 0 = 4096 := by decide
  have hcv : ∀ W : World, (convert 126 9 (.slice (some ⟨W.heap.size + 1, 0, none⟩) 12 12)).run Tryz.prog ((W.alloc (.cells #[.int .i64 y, .int .i64 m, .int .i64 d, .int .i64 hh, .int .i64 mi, .int .i64 s] 161)).alloc (.cells #[.int .u8 0, .int .u8 16, .int .u8 (y % 256), .int .u8 (y / 256), .int .u8 m, .int .u8 d, .int .u8 hh, .int .u8 mi, .int .u8 s, .int .u8 0, .int .u8 0, .int .u8 0] 5)) = .ok (.string (bs (Vs.stampC ⟨y, m, d, hh, mi, s⟩))) ((W.alloc (.cells #[.int .i64 y, .int .i64 m, .int .i64 d, .int .i64 hh, .int .i64 mi, .int .i64 s] 161)).alloc (.cells #[.int .u8 0, .int .u8 16, .int .u8 (y % 256), .int .u8 (y / 256), .int .u8 m, .int .u8 d, .int .u8 hh, .int .u8 mi, .int .u8 s, .int .u8 0, .int .u8 0, .int .u8 0] 5)) := fun W => by
    have u1 := Vs.u8_nat (n := y % 256) (by omega) (by omega)
    have u2 := Vs.u8_nat (n := y / 256) (by omega) (by omega)
    have u3 := Vs.u8_nat (n := m) (by omega) (by omega)
    have u4 := Vs.u8_nat (n := d) (by omega) (by omega)
    have u5 := Vs.u8_nat (n := hh) (by omega) (by omega)
    have u6 := Vs.u8_nat (n := mi) (by omega) (by omega)
    have u7 := Vs.u8_nat (n := s) (by omega) (by omega)
    refine run_convert_bytes_back (P := Tryz.prog) _ 126 9 5 ⟨W.heap.size + 1, 0, none⟩ 12 (Vs.stampC ⟨y, m, d, hh, mi, s⟩) Tryz.underlying126 Tryz.underlying5 Tryz.underlying9 (fun i hi => ?_)
    rw [Addr.add_lit, Nat.zero_add, cell_of_row _ _ i _ _ _ (heap_alloc2_new W _ _)]
    have hi12 : i < 12 := hi
    have hc : i = 0 ∨ i = 1 ∨ i = 2 ∨ i = 3 ∨ i = 4 ∨ i = 5 ∨ i = 6 ∨ i = 7 ∨ i = 8 ∨ i = 9 ∨ i = 10 ∨ i = 11 := by omega
    unfold Vs.stampC
    rcases hc with rfl | rfl | rfl | rfl | rfl | rfl | rfl | rfl | rfl | rfl | rfl | rfl
    · rfl
    · rfl
    · exact congrArg (fun x => some (Value.int .u8 x)) u1.symm
    · exact congrArg (fun x => some (Value.int .u8 x)) u2.symm
    · exact congrArg (fun x => some (Value.int .u8 x)) u3.symm
    · exact congrArg (fun x => some (Value.int .u8 x)) u4.symm
    · exact congrArg (fun x => some (Value.int .u8 x)) u5.symm
    · exact congrArg (fun x => some (Value.int .u8 x)) u6.symm
    · exact congrArg (fun x => some (Value.int .u8 x)) u7.symm
    · rfl
    · rfl
    · rfl
  clear hmd q6
  go_enter Tryz.func132, Tryz.ntmps132
  go_wp2_with fail
  with_reducible refine (CS.out _).mono ?_
  rintro e w2 ⟨rfl, hb2'⟩
  have HB := Lib.hid hb2'
  clear hb2' CS
  go_wp2_with fail
  go_ret2
  rw [HR.out]
  exact ⟨rfl, (HB.out.alloc HB.out.size _).alloc (Nat.le_trans HB.out.size (by simp)) _⟩
end Go.Proofs.YthkppbimkjmbnaaGreatDoor

/-
  The contract of (*strings.Builder).WriteRune at this seat's numbers: the library's own contract, laid by name (mkshelf.py wrote the table).
-/
namespace Go.Proofs
open Go.Shelf Go.RowKit
def Tryz.ylays168_ren : Go.Shelf.Ren := ⟨fun | 168 => 222 | 240 => 227 | 242 => 268 | 276 => 269 | 278 => 284 | n => n, fun | 0 => 0 | 3 => 3 | 4 => 4 | 5 => 5 | 9 => 9 | 20 => 20 | 21 => 21 | 37 => 126 | 46 => 146 | 51 => 190 | 53 => 192 | 70 => 168 | 72 => 170 | 75 => 173 | 76 => 174 | 80 => 88 | 127 => 216 | 164 => 244 | n => n, fun | n => n⟩
theorem Tryz.ylays168 : Go.Proofs.Lays.n168 Tryz.prog Tryz.ylays168_ren := {
  mixed := by kernel_rfl
  f168 := Tryz.func222.trans (congrArg some (by kernel_rfl))
  f240 := Tryz.func227.trans (congrArg some (by kernel_rfl))
  f242 := Tryz.func268.trans (congrArg some (by kernel_rfl))
  f276 := Tryz.func269.trans (congrArg some (by kernel_rfl))
  f278 := Tryz.func284.trans (congrArg some (by kernel_rfl))
  t0 := Tryz.underlying0
  a0 := Tryz.isAgg0
  z0 := Tryz.sizeOf0
  v0 := Tryz.zeroValue0
  t3 := Tryz.underlying3
  a3 := Tryz.isAgg3
  z3 := Tryz.sizeOf3
  v3 := Tryz.zeroValue3
  t4 := Tryz.underlying4
  a4 := Tryz.isAgg4
  z4 := Tryz.sizeOf4
  v4 := Tryz.zeroValue4
  t5 := Tryz.underlying5
  a5 := Tryz.isAgg5
  z5 := Tryz.sizeOf5
  v5 := Tryz.zeroValue5
  t9 := Tryz.underlying9
  a9 := Tryz.isAgg9
  z9 := Tryz.sizeOf9
  v9 := Tryz.zeroValue9
  t20 := Tryz.underlying20
  a20 := Tryz.isAgg20
  z20 := Tryz.sizeOf20
  v20 := Tryz.zeroValue20
  t21 := Tryz.underlying21
  a21 := Tryz.isAgg21
  z21 := Tryz.sizeOf21
  v21 := Tryz.zeroValue21
  t37 := Tryz.underlying126
  a37 := Tryz.isAgg126
  z37 := Tryz.sizeOf126
  v37 := Tryz.zeroValue126
  t46 := Tryz.underlying146
  a46 := Tryz.isAgg146
  z46 := Tryz.sizeOf146
  v46 := Tryz.zeroValue146
  t51 := Tryz.underlying190
  a51 := Tryz.isAgg190
  z51 := Tryz.sizeOf190
  v51 := Tryz.zeroValue190
  t70 := Tryz.underlying168
  a70 := Tryz.isAgg168
  z70 := Tryz.sizeOf168
  v70 := Tryz.zeroValue168
  t72 := Tryz.underlying170
  a72 := Tryz.isAgg170
  z72 := Tryz.sizeOf170
  v72 := Tryz.zeroValue170
  t75 := Tryz.underlying173
  a75 := Tryz.isAgg173
  z75 := Tryz.sizeOf173
  v75 := Tryz.zeroValue173
  t164 := Tryz.underlying244
  a164 := Tryz.isAgg244
  z164 := Tryz.sizeOf244
  v164 := Tryz.zeroValue244 }
theorem Tryz.yExtra168 : Builder.Extra Tryz.prog Tryz.ylays168_ren := {
  sizeBuilder := by kernel_rfl
  liesBuilder := by kernel_rfl
  t5 := Tryz.underlying5
  a5 := Tryz.isAgg5
  z5 := Tryz.sizeOf5
  v5 := Tryz.zeroValue5
  infoByte := by kernel_rfl
  cellsByte := by kernel_rfl
  sizeByte := by kernel_rfl
  neB5 := by decide }
theorem Tryz.yWriteRune (B b : Nat) (bs : List Value) (r : Int) (hr0 : -2147483648 ≤ r) (hr1 : r ≤ 2147483647) (w : World) (h : Lib.IsBuilderF 170 5 B b bs w) (hlen : bs.length + 4 ≤ 140737488355328) (hBw : B ≤ w.heap.size) :
    Calls Tryz.prog 222 #[.pointer (some ⟨b, 0, none⟩), .int .i32 r] w fun e w' => e = .returned (.tuple #[.int .i64 (Lib.runeCells r).length, .nilIface]) ∧ (Lib.BuilderAtF 170 5 B b (.pointer (some ⟨b, 0, none⟩)) (bs ++ Lib.runeCells r) w' ∧ Below B w w' ∧ Lib.OthersKept 5 (some b) w w') :=
  Any.Builder_WriteRune_k Tryz.ylays168 Tryz.yExtra168 B b bs r hr0 hr1 w h hlen hBw
end Go.Proofs

/-
  The walks through charset (layer 17): what its functions return, for any string.
-/
namespace Go.Proofs.YthkppbimkjmbnaaGreatDoor
open Go.RowKit

set_option maxHeartbeats 400000 in
/-- charset.character. -/
theorem character_any (n : Int) (w : World) : Calls Tryz.prog 239 #[.int .i64 n] w fun e w' => e = .returned (.bool (Cs.isChar n)) ∧ w = w' := by
  by_cases h1 : 32 ≤ n <;> by_cases h2 : n ≤ 65533 <;> by_cases h3 : n < 55296 <;> by_cases h4 : 57343 < n
  all_goals
    go_enter Tryz.func239, Tryz.ntmps239
    go_wp2
    go_ret
    refine ⟨congrArg (fun b => Ending.returned (.bool b)) ?_, rfl⟩
    unfold Cs.isChar
    simp [*]

theorem decode_eq (s : ByteArray) (h : 0 < s.size) : Lib.decodeGo s = Cs.raw s.data.toList := by
  unfold Lib.decodeGo Cs.raw
  rw [if_neg (by omega), Lib.decode_at]
  have e : ∀ i, (s.get! i).toNat = Cs.byt s.data.toList i := by
    intro i
    unfold Cs.byt
    congr 1
    by_cases hi : i < s.size
    · rw [Utf8W.get!_of_lt s i hi]
      have hi' : i < s.data.size := hi
      simp only [List.getD, Array.getElem?_toList, Array.getElem?_eq_getElem hi']
      rfl
    · have hi' : ¬ i < s.data.size := by simpa using hi
      cases s with
      | mk d =>
        show d[i]! = _
        simp at hi'
        simp [List.getD, hi']
        rfl
  simp only [e, Nat.sub_zero]
  congr 1

theorem go_of_dec (s : ByteArray) (h0 : 0 < s.size) {n k : Nat} (hd : Cs.dec s.data.toList = some (n, k)) : Lib.decodeGo s = (n, k) := by
  rw [decode_eq s h0]
  unfold Cs.dec at hd
  split at hd
  · exact Option.some.inj hd
  · cases hd

theorem len0 (s : ByteArray) (h : ¬ 0 < s.size) : s.data.toList.length = 0 := by
  have : s.data.toList.length = s.size := by simp
  omega

set_option maxHeartbeats 1600000 in
set_option maxRecDepth 100000 in
/-- charset.Characters. -/
theorem characters_any (s : ByteArray) (w : World) (hT : Lib.Utf8Tabs 1 2 w) (hs : s.size ≤ 9223372036854775807) :
    Calls Tryz.prog 189 #[.string s] w fun e w' => ∃ v, e = .returned (.tuple #[v, .int .i64 (Cs.charsR s.data.toList).2]) ∧ w'.ownsRow w.heap.size 3 1 v (Cs.charsR s.data.toList).1.length (Kit.ints (Cs.charsR s.data.toList).1) ∧ Below w.heap.size w w' := by
  by_cases hl : s.size ≤ 65536
  case neg =>
    rw [Cs.charsR_long (by simp; omega)]
    have hl' : (65536 : Int) < (s.size : Int) := by omega
    go_enter Tryz.func189, Tryz.ntmps189
    go_wp2_with fail
    go_ret2
    exact ⟨_, rfl, World.ownsRow_nil _ _ _ _, Below.refl _ _⟩
  case pos =>
  have HT := Lib.hid hT
  clear hT
  obtain ⟨i0, hi, hz0, hz1, hz2⟩ := info_parts intInfo
  have hl' : ¬ (65536 : Int) < (s.size : Int) := by omega
  go_enter Tryz.func189, Tryz.ntmps189
  go_wp2_with (at_make; refine wpList_make_own _ rfl _ _ 34 rfl w.heap.size 3 i0 (.int .i64 0) 1 Tryz.underlying34 hi hz0 hz1 _ _ _ s.size rfl rfl (by omega) ?_ ?_ ?_ ?_)
  case refine_1 => omega
  case refine_2 => unfold maxLen; omega
  case refine_4 =>
   intro w1 hown hgrow
   have hb1 : Below w.heap.size w w1 := (Below.refl _ _).grown hgrow (Nat.le_refl _) (fun k hk => by cases hk)
   go_wp2_with fail
   go_loopw [0, 4] (fun sv v wr => ∃ (rest : ByteArray) (acc : List Nat), sv = .string rest ∧ Cs.Read s.data.toList acc rest.data.toList ∧ acc.length + rest.size ≤ s.size ∧ wr.ownsRow w.heap.size 3 1 v acc.length (Kit.ints acc) ∧ Below w.heap.size w wr)
     (fun sv _ _ => Kit.strLen sv)
   case atStart => exact ⟨s, [], rfl, Cs.Read.start _, by simp, hown, hb1⟩
   case round =>
    obtain ⟨rest, acc, rfl, hrd, hlen, hown, hbw⟩ := hrel
    have HRD := Lib.hid hrd
    have HOWN := Lib.hid hown
    clear hrd hown hb1 hgrow
    have hsz := hbw.size
    by_cases h0 : 0 < rest.size
    · have h00 : 0 < rest.data.toList.length := by simpa using h0
      have h0' : (0 : Int) < (rest.size : Int) := by omega
      have cD := Tryz.utf8_DecodeRuneInString rest wr (Kit.tabs_below HT.out hbw)
      cases hd : Cs.dec rest.data.toList with
      | some p =>
        obtain ⟨n, k⟩ := p
        have hw := Cs.dec_width h00 hd
        rw [go_of_dec rest h0 hd] at cD
        have cC := fun w => character_any (n : Int) w
        rw [hw.2.2] at cC
        have CD := Lib.hid cD
        have CC := Lib.hid cC
        have hg := Cs.dec_char hd
        have hkr : k ≤ rest.size := by have := hw.2.1; simp at this; omega
        have hk0 : 1 ≤ k := hw.1
        have hk1 : (k : Int) ≤ (rest.size : Int) := by omega
        have hn1 : (n : Int) ≤ 65533 := by omega
        have HD := Lib.hid hd
        clear hw hd cD cC
        have e12 : ((n : Int) == 65533) = false ∨ (((n : Int) == 65533) = true ∧ ((k : Int) == 1) = false) := by
          by_cases h65 : n = 65533
          · right; simp [h65]; omega
          · left; simp; omega
        clear hg
        rcases e12 with e1 | ⟨e1, e2⟩
        all_goals
          go_wp2_with fail
          with_reducible refine CD.out.mono ?_
          rintro e w2 ⟨rfl, hb2⟩
          have HB2 := Lib.hid hb2
          have hsz2 := hb2.size
          clear hb2
          go_wp2_with fail
          with_reducible refine (CC.out _).mono ?_
          rintro e w3 ⟨rfl, rfl⟩
          go_wp2_with (at_builtin; refine Kit.push rfl _ _ 34 rfl w.heap.size 3 i0 (.int .i64 0) 8 Tryz.underlying34 hi hz0 hz1 hz2 rfl _ _ _ rfl (Kit.own_below HOWN.out HB2.out) (Kit.ints [n]) 1 1 rfl rfl (Kit.one_i64 _) ?c1 ?c2 ?c3 ?_)
          case c1 => unfold maxLen; omega
          case c2 => omega
          case c3 => omega
          intro v' w4 hown' hb4
          have HOWN' := Lib.hid hown'
          clear hown'
          go_wp2_with fail
          go_roundw
          case rel =>
            exact ⟨rest.extract k rest.size, acc ++ [n], rfl, by rw [Lib.extract_to_end]; exact HRD.out.step h00 HD.out, by simp; omega, by
              have h := HOWN'.out
              rw [← Kit.ints_append] at h
              simpa using h, hbw.trans ((HB2.out.mono hsz).trans hb4)⟩
          case measure => simp [Kit.strLen]; omega
      | none =>
        have hch := HRD.out.fail h00 hd
        have HR := Lib.hid (Cs.charsR_none (by simpa using hl) hch)
        have hgood : Cs.good (Cs.raw rest.data.toList) = false := by
          unfold Cs.dec at hd
          split at hd
          · cases hd
          · rename_i hg
            exact Bool.eq_false_iff.2 hg
        rw [decode_eq rest h0] at cD
        have hwd := Cs.raw_width rest.data.toList h00
        generalize Cs.raw rest.data.toList = r at cD hgood hwd
        obtain ⟨n, k⟩ := r
        simp only at cD hwd
        have hn1 : (n : Int) ≤ 1114111 := by omega
        have hn0 : (0 : Int) ≤ n := by omega
        have CD := Lib.hid cD
        have cC := fun w => character_any (n : Int) w
        by_cases hic : Cs.isChar (n : Int) = true
        · rw [hic] at cC
          have CC := Lib.hid cC
          have hnk : n = 65533 ∧ k = 1 := by
            unfold Cs.good at hgood
            simp only [hic, Bool.true_and, Bool.not_eq_false', Bool.and_eq_true, beq_iff_eq] at hgood
            exact hgood
          have e1 : ((n : Int) == 65533) = true := by simp; omega
          have e2 : ((k : Int) == 1) = true := by simp; omega
          clear cC hic hgood hwd cD hd hch hnk
          go_wp2_with fail
          with_reducible refine CD.out.mono ?_
          rintro e w2 ⟨rfl, hb2⟩
          go_wp2_with fail
          with_reducible refine (CC.out _).mono ?_
          rintro e w3 ⟨rfl, rfl⟩
          go_wp2_with fail
          go_ret2
          rw [HR.out]
          exact ⟨_, rfl, World.ownsRow_nil _ _ _ _, hbw.trans (hb2.mono hsz)⟩
        · have hic' : Cs.isChar (n : Int) = false := by simpa using hic
          rw [hic'] at cC
          have CC := Lib.hid cC
          clear cC hic hic' hgood hwd cD hd hch
          go_wp2_with fail
          with_reducible refine CD.out.mono ?_
          rintro e w2 ⟨rfl, hb2⟩
          go_wp2_with fail
          with_reducible refine (CC.out _).mono ?_
          rintro e w3 ⟨rfl, rfl⟩
          go_wp2_with fail
          go_ret2
          rw [HR.out]
          exact ⟨_, rfl, World.ownsRow_nil _ _ _ _, hbw.trans (hb2.mono hsz)⟩
    · have h0' : ¬ (0 : Int) < (rest.size : Int) := by omega
      have hch := HRD.out.done (len0 rest h0)
      have HR := Lib.hid (Cs.charsR_some (by simpa using hl) hch)
      clear hch
      go_wp2_with fail
      go_ret2
      rw [HR.out]
      exact ⟨_, rfl, HOWN.out, hbw⟩
end Go.Proofs.YthkppbimkjmbnaaGreatDoor

/-
  The walk through charset.Text.
-/
namespace Go.Proofs.YthkppbimkjmbnaaGreatDoor
open Go.RowKit

theorem runeCells_char (n : Int) (h : Cs.isChar n = true) : Lib.runeCells n = Kit.bytes (Cs.enc n) := by
  have hc := (Cs.isChar_iff n).1 h
  have e1 : Kit.bytes (Cs.enc n) = (Cs.encZ n).map (Value.int .u8) := by
    rw [← Cs.enc_toNat n (by omega) (by omega)]
    simp [Kit.bytes]
  rw [e1]
  unfold Lib.runeCells Lib.encodeRuneZ Cs.encZ
  repeat' split
  all_goals first | rfl | (exfalso; omega)

set_option maxHeartbeats 1600000 in
set_option maxRecDepth 100000 in
/-- charset.Text. -/
theorem text_any (v : Value) (zs : List Int) (w : World) (hr : Kit.Row w v (Kit.izs zs)) (hw : ∀ z ∈ zs, -9223372036854775808 ≤ z ∧ z ≤ 9223372036854775807) :
    Calls Tryz.prog 199 #[v] w fun e w' => e = .returned (.tuple #[.string ⟨(Cs.textR zs).1.toArray⟩, .int .i64 (Cs.textR zs).2]) ∧ Below w.heap.size w w' := by
  obtain ⟨A, c, rfl, hlc, hcm, hcell⟩ := hr
  rw [Kit.izs_length] at hlc hcell ⊢
  unfold maxLen at hcm
  by_cases hl : zs.length ≤ 21845
  case neg =>
    have hl' : (21845 : Int) < (zs.length : Int) := by omega
    have HR := Lib.hid (Cs.textR_long (zs := zs) (by omega))
    go_enter Tryz.func199, Tryz.ntmps199
    go_wp2_with fail
    go_ret2
    rw [HR.out]
    exact ⟨rfl, Below.refl _ _⟩
  case pos =>
  have hl' : ¬ (21845 : Int) < (zs.length : Int) := by omega
  have HC := Lib.hid hcell
  have HW := Lib.hid hw
  clear hcell hw
  go_enter Tryz.func199, Tryz.ntmps199
  go_wp2_with fail
  go_loopw [12] (fun iv wr => ∃ j : Nat, j ≤ zs.length ∧ iv = .int .i64 j ∧ (zs.take j).all Cs.isChar = true ∧ Lib.IsBuilderF 170 5 w.heap.size w.heap.size (Lib.byteCells ((zs.take j).flatMap Cs.enc)) wr ∧ Below w.heap.size w wr) (fun iv _ => zs.length - (intOf iv).toNat)
  case atStart => exact ⟨0, by omega, rfl, rfl, Lib.IsBuilderF.of (Lib.fresh_isBuilder _ _ w), (Below.refl _ _).alloc (Nat.le_refl _) _⟩
  case round =>
    obtain ⟨j, hj, rfl, hall, hbd, hbw⟩ := hrel
    have HBD := Lib.hid hbd
    have HALL := Lib.hid hall
    clear hbd hall
    have hsz := hbw.size
    by_cases hlt : j < zs.length
    · obtain ⟨b, o, rfl, hbl, hce⟩ := HC.out (by omega)
      have hcj : wr.cell? ⟨b, o + j, none⟩ = some (.int .i64 (zs.getD j 0)) := by
        rw [hbw.cell (p := ⟨b, o + j, none⟩) hbl]
        exact hce j _ (by simp [Kit.izs, List.getD, hlt])
      clear hce
      have hmem : zs.getD j 0 ∈ zs := by simp [List.getD, hlt]
      obtain ⟨hz0, hz1⟩ := HW.out _ hmem
      have HFL := Lib.hid (Cs.flat_take hlt)
      have hfl := Cs.flat_len (zs.take j)
      rw [List.length_take, Nat.min_eq_left hj] at hfl
      have HLN := Lib.hid hfl
      clear hmem hfl
      have cC := fun W => character_any (zs.getD j 0) W
      by_cases hic : Cs.isChar (zs.getD j 0) = true
      · have hb := (Cs.isChar_iff _).1 hic
        have HAL := Lib.hid (Cs.all_take hlt HALL.out hic)
        have hrc := runeCells_char _ hic
        generalize zs.getD j 0 = z at *
        rw [hic] at cC
        have CC := Lib.hid cC
        have cB := fun W h1 h2 => Tryz.yWriteRune w.heap.size w.heap.size (Lib.byteCells ((zs.take j).flatMap Cs.enc)) z (by omega) (by omega) W h1 (by simp only [Lib.byteCells, List.length_map]; have := HLN.out; omega) h2
        rw [hrc] at cB
        have CB := Lib.hid cB
        clear cC hic hrc cB
        have hz2 : 32 ≤ z := hb.1
        have hz3 : z ≤ 65533 := hb.2.1
        clear hb hz0 hz1
        go_wp2_with fail
        with_reducible refine (CC.out _).mono ?_
        rintro e w3 ⟨rfl, rfl⟩
        go_wp2_with fail
        with_reducible refine (CB.out _ HBD.out hsz).mono ?_
        rintro e w3 ⟨rfl, hb3, hb3', _⟩
        have HB3 := Lib.hid hb3
        clear hb3
        go_wp2_with fail
        go_roundw
        case rel => exact ⟨j + 1, by omega, by go_num, HAL.out, by
          have h := HB3.out
          rw [HFL.out]
          exact .inr (by simpa [Lib.byteCells, Kit.bytes] using h), hbw.trans hb3'⟩
        case measure => simp [intOf]; omega
      · have hic' : Cs.isChar (zs.getD j 0) = false := by simpa using hic
        have HR := Lib.hid (Cs.textR_no (by omega) hlt hic')
        generalize zs.getD j 0 = z at *
        rw [hic'] at cC
        have CC := Lib.hid cC
        clear cC hic hic'
        go_wp2_with fail
        with_reducible refine (CC.out _).mono ?_
        rintro e w3 ⟨rfl, rfl⟩
        go_wp2_with fail
        go_ret2
        rw [HR.out]
        exact ⟨rfl, hbw⟩
    · obtain rfl : j = zs.length := by omega
      have hal := HALL.out
      rw [List.take_length] at hal
      have HR := Lib.hid (Cs.textR_ok (by omega) hal)
      have hbd := HBD.out
      rw [List.take_length] at hbd
      have HB := Lib.hid hbd
      clear hbd hal
      go_wp2_with fail
      with_reducible refine (Tryz.Builder_String_any_f w.heap.size w.heap.size _ _ HB.out hsz).mono ?_
      rintro e w3 ⟨rfl, _, hb3⟩
      go_wp2_with fail
      go_ret2
      rw [HR.out]
      exact ⟨rfl, hbw.trans hb3⟩
end Go.Proofs.YthkppbimkjmbnaaGreatDoor

/-
  The walks through udfstring.compressed and udfstring.Compress.
-/
namespace Go.Proofs.YthkppbimkjmbnaaGreatDoor
open Go.RowKit

set_option maxHeartbeats 1600000 in
set_option maxRecDepth 100000 in
/-- udfstring.compressed with one byte for each character. -/
theorem compressed_one (v : Value) (cs : List Nat) (w : World) (hr : Kit.Row w v (Kit.ints cs)) (hc : ∀ c ∈ cs, c ≤ 255) (hl : cs.length ≤ 65536) :
    Calls Tryz.prog 246 #[v, .int .i64 1] w fun e w' => e = .returned (.string ⟨(Cs.comp cs 1).toArray⟩) ∧ Below w.heap.size w w' := by
  obtain ⟨A, c, rfl, hlc, hcm, hcell⟩ := hr
  obtain ⟨i0, hi, hz0, hz1, hz2⟩ := info_parts byteInfo
  rw [Kit.ints_length] at hlc hcell ⊢
  unfold maxLen at hcm
  have HC := Lib.hid hcell
  have HW := Lib.hid hc
  clear hcell hc
  go_enter Tryz.func246, Tryz.ntmps246
  go_wp2_with fail
  go_loopw [15, 5] (fun iv ov wr => ∃ j : Nat, j ≤ cs.length ∧ iv = .int .i64 j ∧ wr.ownsRow w.heap.size 5 1 ov (1 + j) (Kit.bytes (8 :: (cs.take j).flatMap (Cs.cu 1))) ∧ Below w.heap.size w wr) (fun iv _ _ => cs.length - (intOf iv).toNat)
  case atStart => exact ⟨0, by omega, rfl, Kit.own_new w 5 (Kit.bytes [8]) (by simp [Kit.bytes, maxLen]), (Below.refl _ _).alloc (Nat.le_refl _) _⟩
  case round =>
    obtain ⟨j, hj, rfl, hown, hbw⟩ := hrel
    have HOWN := Lib.hid hown
    clear hown
    have hsz := hbw.size
    by_cases hlt : j < cs.length
    · obtain ⟨b, o, rfl, hbl, hce⟩ := HC.out (by omega)
      have hcj : wr.cell? ⟨b, o + j, none⟩ = some (.int .i64 (cs.getD j 0 : Nat)) := by
        rw [hbw.cell (p := ⟨b, o + j, none⟩) hbl]
        exact hce j _ (by simp [Kit.ints, List.getD, hlt])
      clear hce
      have hz1 := HW.out (cs.getD j 0) (by simp [List.getD, hlt])
      have hz2 : ((cs.getD j 0 : Nat) : Int) ≤ 255 := by omega
      generalize hgz : cs.getD j 0 = z at *
      have HGZ := Lib.hid hgz
      clear hgz
      go_wp2_with fail
      refine wp_loop_rounds 2 ?_
      rw [rounds_succ]
      go_wp2_with (at_builtin; refine Kit.app byteInfo rfl (by decide) rfl _ _ 126 rfl Tryz.underlying126 w.heap.size _ _ _ rfl HOWN.out [_] 1 1 rfl rfl (Kit.one1 rfl) ?c1 hsz ?_)
      case c1 => omega
      intro v' w4 hown' hb4
      have HOWN' := Lib.hid (Kit.snoc_byte hown' (by omega) (by omega))
      clear hown'
      go_wp2_with fail
      rw [rounds_succ]
      go_wp2_with fail
      go_roundw
      case rel => exact ⟨j + 1, by omega, by go_num, by
        have h := HOWN'.out
        rw [List.take_succ_eq_append_getElem hlt, List.flatMap_append, ← List.cons_append]
        have e : (cs[j]'hlt) = z := by rw [← HGZ.out]; simp [List.getD, hlt]
        simpa [e, Cs.cu, Nat.add_assoc] using h, hbw.trans hb4⟩
      case measure => simp [intOf]; omega
    · obtain rfl : j = cs.length := by omega
      have hcv := Kit.str_own HOWN.out
      rw [List.take_length] at hcv
      go_wp2_with fail
      go_ret
      exact ⟨rfl, hbw⟩

set_option maxHeartbeats 1600000 in
set_option maxRecDepth 100000 in
/-- udfstring.compressed with two bytes for each character. -/
theorem compressed_two (v : Value) (cs : List Nat) (w : World) (hr : Kit.Row w v (Kit.ints cs)) (hc : ∀ c ∈ cs, c ≤ 65535) (hl : cs.length ≤ 65536) :
    Calls Tryz.prog 246 #[v, .int .i64 2] w fun e w' => e = .returned (.string ⟨(Cs.comp cs 2).toArray⟩) ∧ Below w.heap.size w w' := by
  obtain ⟨A, c, rfl, hlc, hcm, hcell⟩ := hr
  rw [Kit.ints_length] at hlc hcell ⊢
  unfold maxLen at hcm
  have HC := Lib.hid hcell
  have HW := Lib.hid hc
  clear hcell hc
  go_enter Tryz.func246, Tryz.ntmps246
  go_wp2_with fail
  go_loopw [15, 5] (fun iv ov wr => ∃ j : Nat, j ≤ cs.length ∧ iv = .int .i64 j ∧ wr.ownsRow w.heap.size 5 1 ov (1 + 2 * j) (Kit.bytes (16 :: (cs.take j).flatMap (Cs.cu 2))) ∧ Below w.heap.size w wr) (fun iv _ _ => cs.length - (intOf iv).toNat)
  case atStart => exact ⟨0, by omega, rfl, Kit.own_new w 5 (Kit.bytes [16]) (by simp [Kit.bytes, maxLen]), (Below.refl _ _).alloc (Nat.le_refl _) _⟩
  case round =>
    obtain ⟨j, hj, rfl, hown, hbw⟩ := hrel
    have HOWN := Lib.hid hown
    clear hown
    have hsz := hbw.size
    by_cases hlt : j < cs.length
    · obtain ⟨b, o, rfl, hbl, hce⟩ := HC.out (by omega)
      have hcj : wr.cell? ⟨b, o + j, none⟩ = some (.int .i64 (cs.getD j 0 : Nat)) := by
        rw [hbw.cell (p := ⟨b, o + j, none⟩) hbl]
        exact hce j _ (by simp [Kit.ints, List.getD, hlt])
      clear hce
      have hz1 := HW.out (cs.getD j 0) (by simp [List.getD, hlt])
      have hz2 : ((cs.getD j 0 : Nat) : Int) ≤ 65535 := by omega
      generalize hgz : cs.getD j 0 = z at *
      have HGZ := Lib.hid hgz
      clear hgz
      go_wp2_with fail
      refine wp_loop_rounds 3 ?_
      rw [rounds_succ]
      go_wp2_with (at_builtin; refine Kit.app byteInfo rfl (by decide) rfl _ _ 126 rfl Tryz.underlying126 w.heap.size _ _ _ rfl HOWN.out [_] 1 1 rfl rfl (Kit.one1 rfl) ?c1 hsz ?_)
      case c1 => omega
      intro v' w4 hown' hb4
      have HOWN' := Lib.hid (Kit.snoc_byte hown' (by omega) (by omega))
      have hsz4 := hb4.size
      clear hown'
      go_wp2_with fail
      rw [rounds_succ]
      go_wp2_with (at_builtin; refine Kit.app byteInfo rfl (by decide) rfl _ _ 126 rfl Tryz.underlying126 w.heap.size _ _ _ rfl HOWN'.out [_] 1 1 rfl rfl (Kit.one1 rfl) ?c1 (by omega) ?_)
      case c1 => omega
      intro v'' w5 hown'' hb5
      have HOWN'' := Lib.hid (Kit.snoc_byte hown'' (by omega) (by omega))
      clear hown''
      go_wp2_with fail
      rw [rounds_succ]
      go_wp2_with fail
      go_roundw
      case rel => exact ⟨j + 1, by omega, by go_num, by
        have h := HOWN''.out
        rw [List.take_succ_eq_append_getElem hlt, List.flatMap_append, ← List.cons_append]
        have e : (cs[j]'hlt) = z := by rw [← HGZ.out]; simp [List.getD, hlt]
        have e1 : ((z : Int) / 256).toNat = z / 256 := by omega
        have e2 : UInt8.ofNat ((z : Int) % 256).toNat = UInt8.ofNat z := by
          apply UInt8.toNat_inj.1
          rw [UInt8.toNat_ofNat', UInt8.toNat_ofNat']
          omega
        rw [e1, e2, show 1 + 2 * j + 1 + 1 = 1 + 2 * (j + 1) by omega] at h
        simpa [e, Cs.cu] using h, hbw.trans (hb4.trans hb5)⟩
      case measure => simp [intOf]; omega
    · obtain rfl : j = cs.length := by omega
      have hcv := Kit.str_own HOWN.out
      rw [List.take_length] at hcv
      go_wp2_with fail
      go_ret
      exact ⟨rfl, hbw⟩

set_option maxHeartbeats 1600000 in
set_option maxRecDepth 100000 in
/-- udfstring.Compress. -/
theorem compress_any (s : ByteArray) (w : World) (hT : Lib.Utf8Tabs 1 2 w) (hs : s.size ≤ 9223372036854775807) :
    Calls Tryz.prog 198 #[.string s] w fun e w' => e = .returned (.tuple #[.string ⟨(Cs.compressR s.data.toList).1.toArray⟩, .int .i64 (Cs.compressR s.data.toList).2]) ∧ Below w.heap.size w w' := by
  have cC := characters_any s w hT hs
  by_cases h0 : (Cs.charsR s.data.toList).2 = 0
  · obtain ⟨hl, hch⟩ := Cs.charsR_zero h0
    have hall := Cs.chars_len hch
    have HR := Lib.hid (Cs.compressR_ok hl hch)
    have hs1 : ¬ (65536 : Int) < (s.size : Int) := by simp at hl; omega
    rw [h0] at cC
    generalize (Cs.charsR s.data.toList).1 = cs at *
    have hcl : cs.length ≤ 65536 := by omega
    have HALL := Lib.hid hall.2
    clear h0 hl hch hall hT hs
    have CC := Lib.hid cC
    clear cC
    go_enter Tryz.func198, Tryz.ntmps198
    go_wp2_with fail
    with_reducible refine CC.out.mono ?_
    rintro e w2 ⟨v, rfl, hown, hb2⟩
    have hrow := Kit.Row.of_own hown
    have HROW := Lib.hid hrow
    obtain ⟨A, c, rfl, hlc, hcm, hcell⟩ := hrow
    have HCELL := Lib.hid hcell
    clear hown hcell
    rw [Kit.ints_length] at *
    unfold maxLen at hcm
    by_cases hz : cs.length = 0
    · have hz1 : ((cs.length : Int) == 0) = true := by rw [beq_iff_eq]; omega
      have HZ := Lib.hid hz
      clear hz
      go_wp2_with fail
      go_ret2
      rw [HR.out, show Cs.squeeze cs = [] from if_pos HZ.out]
      exact ⟨rfl, hb2⟩
    · have hz1 : ((cs.length : Int) == 0) = false := by rw [beq_eq_false_iff_ne]; omega
      obtain ⟨b, o, rfl, hbl, hce⟩ := HCELL.out (by omega)
      have HZ := Lib.hid hz
      have cM := Tryz.slices_Max_int b o cs.length c (cs.map fun (n : Nat) => (n : Int)) w2 (by omega) (by simp) (by omega) (fun j hj => by
        have hj' : j < cs.length := by simpa using hj
        exact hce j _ (by simp [Kit.ints, List.getD, hj']))
      rw [List.take_of_length_le (by simp)] at cM
      clear hce hz
      have cM1 := fun h W hr => compressed_one (.slice (some ⟨b, o, none⟩) cs.length c) cs W hr h hcl
      have cM2 := fun h W hr => compressed_two (.slice (some ⟨b, o, none⟩) cs.length c) cs W hr h hcl
      by_cases hm : Lib.maxOf (cs.map fun (n : Nat) => (n : Int)) ≤ 255
      · obtain ⟨hq, h255⟩ := Cs.squeeze_narrow HZ.out hm
        have HQ := Lib.hid hq
        generalize Lib.maxOf (cs.map fun (n : Nat) => (n : Int)) = m at *
        have CM := Lib.hid cM
        have CM1 := Lib.hid (cM1 h255)
        clear hq h255 cM cM1 cM2
        go_wp2_with fail
        with_reducible refine CM.out.mono ?_
        rintro e w3 ⟨rfl, rfl⟩
        go_wp2_with fail
        with_reducible refine (CM1.out _ HROW.out).mono ?_
        rintro e w4 ⟨rfl, hb4⟩
        go_wp2_with fail
        go_ret2
        rw [HR.out, HQ.out]
        exact ⟨rfl, hb2.trans (hb4.mono hb2.size)⟩
      · have hq := Cs.squeeze_wide HZ.out hm
        have h655 : ∀ c ∈ cs, c ≤ 65535 := fun c hc => by
          have := Cs.isChar_le (HALL.out c hc)
          omega
        have HQ := Lib.hid hq
        generalize Lib.maxOf (cs.map fun (n : Nat) => (n : Int)) = m at *
        have CM := Lib.hid cM
        have CM2 := Lib.hid (cM2 h655)
        clear hq h655 cM cM1 cM2
        go_wp2_with fail
        with_reducible refine CM.out.mono ?_
        rintro e w3 ⟨rfl, rfl⟩
        go_wp2_with fail
        with_reducible refine (CM2.out _ HROW.out).mono ?_
        rintro e w4 ⟨rfl, hb4⟩
        go_wp2_with fail
        go_ret2
        rw [HR.out, HQ.out]
        exact ⟨rfl, hb2.trans (hb4.mono hb2.size)⟩
  · obtain ⟨hnil, h7⟩ := Cs.charsR_err h0
    have HR := Lib.hid (Cs.compressR_err h0)
    rcases h7 with ⟨h7, hl⟩ | ⟨h3, hl⟩
    · have hs1 : (65536 : Int) < (s.size : Int) := by simp at hl; omega
      have H7 := Lib.hid h7
      clear hnil h7 hl cC h0
      go_enter Tryz.func198, Tryz.ntmps198
      go_wp2_with fail
      go_ret2
      rw [HR.out, H7.out]
      exact ⟨rfl, Below.refl _ _⟩
    · have hs1 : ¬ (65536 : Int) < (s.size : Int) := by simp at hl; omega
      have H3 := Lib.hid h3
      rw [h3] at cC
      have CC := Lib.hid cC
      clear hnil h3 hl cC h0
      go_enter Tryz.func198, Tryz.ntmps198
      go_wp2_with fail
      with_reducible refine CC.out.mono ?_
      rintro e w2 ⟨v, rfl, _, hb2⟩
      go_wp2_with fail
      go_ret2
      rw [HR.out, H3.out]
      exact ⟨rfl, hb2⟩
end Go.Proofs.YthkppbimkjmbnaaGreatDoor

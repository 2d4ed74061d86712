/-
  The walks through the reference's anchors: extent, Anchor, readExtent, ParseAnchor, Recognition, Session, Anchors.
-/
import Derived.Test.YthkppbimkjmbnaaGreatDoorZn
import Derived.Test.YthkppbimkjmbnaaGreatDoorZQ
import Derived.Test.YthkppbimkjmbnaaGreatDoorZZ
import Derived.Test.YthkppbimkjmbnaaGreatDoorZg
import Derived.Deep.RegionHeld3
namespace Go.Proofs.YthkppbimkjmbnaaGreatDoor
open Go.RowKit
open Vs (bs by_)

set_option maxHeartbeats 3200000 in
set_option maxRecDepth 100000 in
/-- masterdiscref36.extent. -/
theorem r36Extent_any (s c : Int) (h : Vs.spanB s c = true) (w : World) : Calls Tryz.prog 52 #[.agg #[.int .i64 s, .int .i64 c]] w fun e w' => e = .returned (.string (bs (Vs.extL s c))) ∧ Below w.heap.size w w' := by
  obtain ⟨⟨h0, h1⟩, h2, h3⟩ := (Vs.spanB_iff s c).1 h
  have C1 := Lib.hid (fun W => r01_any (c * 2048).toNat 4 (c * 2048) 4 (by omega) rfl (by omega) (by omega) W)
  have C2 := Lib.hid (fun W => r01_any s.toNat 4 s 4 (by omega) rfl (by omega) (by omega) W)
  have HR := Lib.hid (show bs (Pm.le 4 (c * 2048).toNat) ++ bs (Pm.le 4 s.toNat) = bs (Vs.extL s c) from Vs.bs_app _ _)
  have z1 : (bs (Pm.le 4 (c * 2048).toNat)).size ≤ 4 := by rw [Vs.bs_size, Pm.le_len]; decide
  have z2 : (bs (Pm.le 4 s.toNat)).size ≤ 4 := by rw [Vs.bs_size, Pm.le_len]; decide
  generalize bs (Pm.le 4 (c * 2048).toNat) = b1 at *
  generalize bs (Pm.le 4 s.toNat) = b2 at *
  generalize bs (Vs.extL s c) = r at *
  have HB := Lib.hid ((Below.refl w.heap.size w).alloc (Nat.le_refl _) (.cells #[.int .i64 s, .int .i64 c] 23))
  have hbx : ∀ j, (w.alloc (.cells #[.int .i64 s, .int .i64 c] 23)).cell? ⟨w.heap.size, j, none⟩ = (#[.int .i64 s, .int .i64 c] : Array Value)[j]? := fun j => cell_of_row _ _ _ _ _ _ (heap_alloc_new w _)
  have y0 := fun x : Later (w.heap.size + 1) (w.alloc (.cells #[.int .i64 s, .int .i64 c] 23)) => later_cell x (by omega) (hbx 0)
  have y1 := fun x : Later (w.heap.size + 1) (w.alloc (.cells #[.int .i64 s, .int .i64 c] 23)) => later_cell x (by omega) (hbx 1)
  have HSZ := Lib.hid (show (w.alloc (.cells #[.int .i64 s, .int .i64 c] 23)).heap.size = w.heap.size + 1 by simp)
  clear hbx
  go_enter Tryz.func52, Tryz.ntmps52
  go_wp2_with fail
  refine wp_region_later (w.heap.size + 1) (by kernel_rfl) (by kernel_rfl) ?_
  repeat (any_goals (first | go_big_quiet_skip | (go_big_quiet_want; go_big_quiet_op; first | go_big_quiet_on | (apply Exists.intro; refine ⟨fun _ => ?_, ?_⟩; (first | (with_reducible refine Calls.later_of ?_ (C1.out _); simp) | (with_reducible refine Calls.later_of ?_ (C2.out _); simp)); go_big_quiet_on))))
  refine wpQuiet_nil ?_
  intro wq hw'
  obtain ⟨⟨wz, hbq⟩, hw''⟩ := hw'
  subst hw''
  have HBZ := Lib.hid (HB.out.trans (hbq.mono (by omega)))
  clear y0 y1 hbq
  go_wp2_with fail
  go_ret
  rw [HR.out]
  exact ⟨rfl, HBZ.out⟩


set_option maxHeartbeats 3200000 in
set_option maxRecDepth 100000 in
/-- masterdiscref36.Anchor. -/
theorem r36Anchor_any (loc ms mc rs rc : Int) (w : World) : Calls Tryz.prog 13 #[.int .i64 loc, .agg #[.int .i64 ms, .int .i64 mc], .agg #[.int .i64 rs, .int .i64 rc]] w fun e w' => e = .returned (.tuple #[.string (bs (Vs.anchorR loc ms mc rs rc).1), .int .i64 (Vs.anchorR loc ms mc rs rc).2]) ∧ Below w.heap.size w w' := by
  have CW := Lib.hid (fun W => r36Word_any loc W)
  have CM := Lib.hid (fun W => r36Span_any ms mc W)
  have CR := Lib.hid (fun W => r36Span_any rs rc W)
  have HR := Lib.hid (show Vs.anchorR loc ms mc rs rc = if Vs.word loc = true then (if (Vs.spanB ms mc && Vs.spanB rs rc) = true then (Vs.blk 2 1 loc.toNat (Vs.ancL ms mc rs rc), 0) else ([], 1)) else ([], 2) from rfl)
  have HB0 := Lib.hid (((Below.refl w.heap.size w).alloc (Nat.le_refl _) (.cells #[.int .i64 ms, .int .i64 mc] 23)).alloc (by simp) (.cells #[.int .i64 rs, .int .i64 rc] 23))
  have HN1 := Lib.hid (heap_alloc2_old w (.cells #[.int .i64 ms, .int .i64 mc] 23) (.cells #[.int .i64 rs, .int .i64 rc] 23))
  have HN2 := Lib.hid (heap_alloc2_new w (.cells #[.int .i64 ms, .int .i64 mc] 23) (.cells #[.int .i64 rs, .int .i64 rc] 23))
  cases hw : Vs.word loc with
  | false =>
    rw [hw] at CW
    have HR2 := Lib.hid (HR.out.trans (if_neg (by rw [hw]; decide)))
    rw [HR2.out]
    clear hw HR HR2
    go_enter Tryz.func13, Tryz.ntmps13
    go_wp2_with fail
    with_reducible refine (CW.out _).mono ?_
    rintro e w2 ⟨rfl, hw2⟩
    subst hw2
    go_wp2_with fail
    go_ret2
    exact ⟨rfl, HB0.out⟩
  | true =>
  rw [hw] at CW
  have HR1 := Lib.hid (HR.out.trans (if_pos (by rw [hw])))
  clear HR
  cases hm : Vs.spanB ms mc with
  | false =>
    rw [hm] at CM
    have HR2 := Lib.hid (HR1.out.trans (if_neg (by rw [hm]; simp)))
    rw [HR2.out]
    clear hw HR1 HR2 hm
    go_enter Tryz.func13, Tryz.ntmps13
    go_wp2_with fail
    with_reducible refine (CW.out _).mono ?_
    rintro e w2 ⟨rfl, hw2⟩
    subst hw2
    have ca := cell_of_row _ _ 0 _ _ _ HN1.out
    have cb := cell_of_row _ _ 1 _ _ _ HN1.out
    simp only [List.getElem?_toArray, List.getElem?_cons_zero, List.getElem?_cons_succ] at ca cb
    go_wp2_with fail
    with_reducible refine (CM.out _).mono ?_
    rintro e w2 ⟨rfl, hb2⟩
    have HB2 := Lib.hid (HB0.out.trans (hb2.mono HB0.out.size))
    clear hb2 ca cb
    go_wp2_with fail
    go_ret2
    exact ⟨rfl, HB2.out⟩
  | true =>
  rw [hm] at CM
  cases hr : Vs.spanB rs rc with
  | false =>
    rw [hr] at CR
    have HR2 := Lib.hid (HR1.out.trans (if_neg (by rw [hr]; simp)))
    rw [HR2.out]
    clear hw HR1 HR2 hm hr
    go_enter Tryz.func13, Tryz.ntmps13
    go_wp2_with fail
    with_reducible refine (CW.out _).mono ?_
    rintro e w2 ⟨rfl, hw2⟩
    subst hw2
    have ca := cell_of_row _ _ 0 _ _ _ HN1.out
    have cb := cell_of_row _ _ 1 _ _ _ HN1.out
    simp only [List.getElem?_toArray, List.getElem?_cons_zero, List.getElem?_cons_succ] at ca cb
    go_wp2_with fail
    with_reducible refine (CM.out _).mono ?_
    rintro e w2 ⟨rfl, hb2⟩
    have HB2 := Lib.hid (HB0.out.trans (hb2.mono HB0.out.size))
    have hn2 := (hb2.block (w.heap.size + 1) (by simp)).trans HN2.out
    have cc := cell_of_row _ _ 0 _ _ _ hn2
    have cd := cell_of_row _ _ 1 _ _ _ hn2
    simp only [List.getElem?_toArray, List.getElem?_cons_zero, List.getElem?_cons_succ] at cc cd
    clear hb2 ca cb hn2
    go_wp2_with fail
    with_reducible refine (CR.out _).mono ?_
    rintro e w3 ⟨rfl, hb3⟩
    have HB3 := Lib.hid (HB2.out.trans (hb3.mono HB2.out.size))
    clear hb3 cc cd
    go_wp2_with fail
    go_ret2
    exact ⟨rfl, HB3.out⟩
  | true =>
  rw [hr] at CR
  have HR2 := Lib.hid (HR1.out.trans (if_pos (by rw [hm, hr]; rfl)))
  have hwl := (Vs.word_iff loc).1 hw
  obtain ⟨L, hL⟩ : ∃ L : Nat, loc = L := ⟨loc.toNat, by omega⟩
  have C1 := Lib.hid (fun W => r36Extent_any ms mc hm W)
  have C2 := Lib.hid (fun W => r36Extent_any rs rc hr W)
  have hel : (Vs.extL ms mc ++ Vs.extL rs rc).length = 16 := by rw [List.length_append, Vs.extL_len, Vs.extL_len]
  have CP := Lib.hid (fun W => rPad_any (Vs.extL ms mc ++ Vs.extL rs rc) 496 (by omega) (by omega) W)
  have hpd : (Vs.extL ms mc ++ Vs.extL rs rc) ++ List.replicate (496 - (Vs.extL ms mc ++ Vs.extL rs rc).length) 0 = Vs.ancL ms mc rs rc := by
    rw [hel]
    unfold Vs.ancL Vs.extL
    simp only [List.append_assoc]
    rfl
  rw [hpd] at CP
  change Hid (∀ W : World, Calls Tryz.prog 51 #[.string (bs (Vs.extL ms mc ++ Vs.extL rs rc)), .int .i64 496] W fun e w' => e = .returned (.string (bs (Vs.ancL ms mc rs rc))) ∧ Below W.heap.size W w') at CP
  rw [← Vs.bs_app] at CP
  have CB := Lib.hid (fun W => r31Block_any 2 1 loc (bs (Vs.ancL ms mc rs rc)) W (by rw [Vs.bs_size, Vs.ancL_len]; decide))
  have HBB := Lib.hid (show Vs.blockR 2 1 loc (Vs.ancL ms mc rs rc) = (Vs.blk 2 1 loc.toNat (Vs.ancL ms mc rs rc), 0) from by
    rw [hL, Int.toNat_natCast]
    exact Vs.blockR_ok (id := 2) (ser := 1) (by decide) (by decide) (by omega) (by rw [Vs.ancL_len]; decide))
  rw [Vs.by_bs, HBB.out] at CB
  simp only [] at CB
  have z1 : (bs (Vs.extL ms mc)).size ≤ 8 := by rw [Vs.bs_size, Vs.extL_len]; decide
  have z2 : (bs (Vs.extL rs rc)).size ≤ 8 := by rw [Vs.bs_size, Vs.extL_len]; decide
  rw [HR2.out]
  simp only []
  clear hw hm hr HR1 HR2 hL hwl hel hpd HBB
  generalize bs (Vs.extL ms mc) = r1 at *
  generalize bs (Vs.extL rs rc) = r2 at *
  generalize bs (Vs.ancL ms mc rs rc) = pd at *
  generalize bs (Vs.blk 2 1 loc.toNat (Vs.ancL ms mc rs rc)) = bl at *
  go_enter Tryz.func13, Tryz.ntmps13
  go_wp2_with fail
  with_reducible refine (CW.out _).mono ?_
  rintro e w2 ⟨rfl, hw2⟩
  subst hw2
  have ca := cell_of_row _ _ 0 _ _ _ HN1.out
  have cb := cell_of_row _ _ 1 _ _ _ HN1.out
  simp only [List.getElem?_toArray, List.getElem?_cons_zero, List.getElem?_cons_succ] at ca cb
  go_wp2_with fail
  with_reducible refine (CM.out _).mono ?_
  rintro e w2 ⟨rfl, hb2⟩
  have HB2 := Lib.hid (HB0.out.trans (hb2.mono HB0.out.size))
  have HM2 := Lib.hid ((hb2.block w.heap.size (by simp; omega)).trans HN1.out)
  have hn2 := (hb2.block (w.heap.size + 1) (by simp)).trans HN2.out
  have HN3 := Lib.hid hn2
  have cc := cell_of_row _ _ 0 _ _ _ hn2
  have cd := cell_of_row _ _ 1 _ _ _ hn2
  simp only [List.getElem?_toArray, List.getElem?_cons_zero, List.getElem?_cons_succ] at cc cd
  have hs2 := hb2.size
  simp only [World.size_alloc] at hs2
  clear hb2 ca cb hn2
  go_wp2_with fail
  with_reducible refine (CR.out _).mono ?_
  rintro e w3 ⟨rfl, hb3⟩
  have HB3 := Lib.hid (HB2.out.trans (hb3.mono HB2.out.size))
  have HM3 := Lib.hid ((hb3.block w.heap.size (by omega)).trans HM2.out)
  have HN4 := Lib.hid ((hb3.block (w.heap.size + 1) (by omega)).trans HN3.out)
  have hl1 := (Array.getElem?_eq_some_iff.1 HM3.out).1
  have hl2 := (Array.getElem?_eq_some_iff.1 HN4.out).1
  clear hb3 cc cd HM2 HN3 hs2
  have ca := cell_of_row _ _ 0 _ _ _ HM3.out
  have cb := cell_of_row _ _ 1 _ _ _ HM3.out
  have cc := cell_of_row _ _ 0 _ _ _ HN4.out
  have cd := cell_of_row _ _ 1 _ _ _ HN4.out
  simp only [List.getElem?_toArray, List.getElem?_cons_zero, List.getElem?_cons_succ] at ca cb cc cd
  have y0 := fun x : Later w3.heap.size w3 => later_cell x hl1 ca
  have y1 := fun x : Later w3.heap.size w3 => later_cell x hl1 cb
  have y2 := fun x : Later w3.heap.size w3 => later_cell x hl2 cc
  have y3 := fun x : Later w3.heap.size w3 => later_cell x hl2 cd
  go_wp2_with fail
  refine wp_region_later w3.heap.size (by kernel_rfl) (by kernel_rfl) ?_
  repeat (any_goals (first | go_big_quiet_skip | (go_big_quiet_want; go_big_quiet_op; first | go_big_quiet_on | (apply Exists.intro; refine ⟨fun _ => ?_, ?_⟩; (first | (with_reducible refine Calls.later_of ?_ (C1.out _); exact Nat.le_refl _) | (with_reducible refine Calls.later_of ?_ (C2.out _); exact Nat.le_refl _) | (with_reducible refine Calls.later_of ?_ (CP.out _); exact Nat.le_refl _) | (with_reducible refine Calls.later_of ?_ (CB.out _); exact Nat.le_refl _)); go_big_quiet_on))))
  refine wpQuiet_nil ?_
  intro w4 hw'
  obtain ⟨⟨wz, hbq⟩, hw''⟩ := hw'
  subst hw''
  have HB4 := Lib.hid (HB3.out.trans (hbq.mono HB3.out.size))
  clear hbq ca cb cc cd y0 y1 y2 y3
  go_wp2_with fail
  go_ret2
  exact ⟨rfl, HB4.out⟩

set_option maxHeartbeats 3200000 in
set_option maxRecDepth 100000 in
/-- masterdiscref36.readExtent. -/
theorem r36ReadExtent_any (s : ByteArray) (a : Nat) (A : Int) (hA : A = (a : Int)) (ha : a + 8 ≤ s.size) (hs : s.size ≤ 9223372036854775807) (w : World) :
    Calls Tryz.prog 56 #[.string s, .int .i64 A] w fun e w' => e = .returned (.agg #[.int .i64 (Pm.at_ (by_ s) (a + 4) 4 : Nat), .int .i64 (Pm.at_ (by_ s) a 4 / 2048 : Nat)]) ∧ Below w.heap.size w w' := by
  subst hA
  have C1 := Lib.hid (fun W => r31N_any s (a + 4) 4 ((a : Int) + 4) 4 (by omega) rfl (by omega) (by omega) hs W)
  have C2 := Lib.hid (fun W => r31N_any s a 4 a 4 rfl rfl (by omega) (by omega) hs W)
  have hb := Pm.at_lt (by_ s) a 4
  have ha2 : (a : Int) + 8 ≤ 9223372036854775807 := by omega
  generalize Pm.at_ (by_ s) (a + 4) 4 = x at *
  generalize Pm.at_ (by_ s) a 4 = y at *
  have hy : (y : Int) < 4294967296 := by omega
  have HQ := Lib.hid (show ((y / 2048 : Nat) : Int) = (y : Int) / 2048 by omega)
  clear hs ha hb
  go_enter Tryz.func56, Tryz.ntmps56
  go_wp2_with fail
  with_reducible refine (C1.out _).mono ?_
  rintro e w2 ⟨rfl, hw⟩
  subst hw
  go_wp2_with fail
  with_reducible refine (C2.out _).mono ?_
  rintro e w2 ⟨rfl, hw⟩
  subst hw
  go_wp2_with fail
  refine bodyPost_ret (v := .agg #[.int .i64 (x : Int), .int .i64 ((y : Int) / 2048)]) (results_cell_row rfl _ _ w.heap.size 23 _ (0, 0) _ rfl (heap_alloc_new w _) Tryz.underlying23 rfl (by kernel_rfl)) rfl ⟨?_, (Below.refl _ _).alloc (Nat.le_refl _) _⟩
  rw [HQ.out]

set_option maxHeartbeats 3200000 in
set_option maxRecDepth 100000 in
/-- masterdiscref36.ParseAnchor. -/
theorem r36ParseAnchor_any (s : ByteArray) (loc : Int) (w : World) (hs : s.size ≤ 9223372036854775807) :
    Calls Tryz.prog 15 #[.string s, .int .i64 loc] w fun e w' => e = .returned (.tuple #[.agg (Vs.spV (Vs.pancR (by_ s) loc).1.1.1 (Vs.pancR (by_ s) loc).1.1.2), .agg (Vs.spV (Vs.pancR (by_ s) loc).1.2.1 (Vs.pancR (by_ s) loc).1.2.2), .int .i64 (Vs.pancR (by_ s) loc).2]) ∧ Below w.heap.size w w' := by
  have CI := Lib.hid (fun W => r36Is_any s 2 loc W hs)
  have HB0 := Lib.hid (((Below.refl w.heap.size w).alloc (Nat.le_refl _) (.cells #[.int .i64 0, .int .i64 0] 23)).alloc (by simp) (.cells #[.int .i64 0, .int .i64 0] 23))
  have HN1 := Lib.hid (heap_alloc2_old w (.cells #[.int .i64 0, .int .i64 0] 23) (.cells #[.int .i64 0, .int .i64 0] 23))
  have HN2 := Lib.hid (heap_alloc2_new w (.cells #[.int .i64 0, .int .i64 0] 23) (.cells #[.int .i64 0, .int .i64 0] 23))
  unfold Vs.spV
  cases h : Vs.isB (by_ s) 2 loc with
  | false =>
    rw [h] at CI
    have HR := Lib.hid (show Vs.pancR (by_ s) loc = (((0, 0), (0, 0)), 10) from if_neg (by rw [h]; decide))
    rw [HR.out]
    simp only []
    clear h HR
    go_enter Tryz.func15, Tryz.ntmps15
    go_wp2_with fail
    with_reducible refine (CI.out _).mono ?_
    rintro e w2 ⟨rfl, hb2⟩
    have HB2 := Lib.hid (HB0.out.trans (hb2.mono HB0.out.size))
    have HM1 := Lib.hid ((hb2.block w.heap.size (by simp; omega)).trans HN1.out)
    have HM2 := Lib.hid ((hb2.block (w.heap.size + 1) (by simp)).trans HN2.out)
    clear hb2
    have c0 := cell_of_row _ _ 0 _ _ _ HM1.out
    have c1 := cell_of_row _ _ 1 _ _ _ HM1.out
    have c2 := cell_of_row _ _ 0 _ _ _ HM2.out
    have c3 := cell_of_row _ _ 1 _ _ _ HM2.out
    have hfj := fun j => frozen_of_row _ _ j _ _ HM1.out
    have hfk := fun j => frozen_of_row _ _ j _ _ HM2.out
    simp only [List.getElem?_toArray, List.getElem?_cons_zero, List.getElem?_cons_succ] at c0 c1 c2 c3
    go_wp2_with fail
    refine bodyPost_ret (v := .tuple #[.agg #[.int .i64 0, .int .i64 0], .agg #[.int .i64 0, .int .i64 0], .int .i64 10]) (res_cct rfl _ _ w.heap.size 23 #[.int .i64 0, .int .i64 0] (0, 0) (w.heap.size + 1) 23 #[.int .i64 0, .int .i64 0] (0, 0) _ rfl ?_ rfl ?_ Tryz.underlying23 rfl (by kernel_rfl) (by kernel_rfl) _ rfl) rfl ⟨rfl, ?_⟩
    · refine (heap_setCell_other _ _ _ _ (by simp)).trans ((heap_setCell_other _ _ _ _ (by simp)).trans ?_)
      exact Vs.row2 HM1.out _ _
    · refine Vs.row2 (a := .int .i64 0) (b := .int .i64 0) ?_ _ _
      exact (heap_setCell_other _ _ _ _ (by simp)).trans ((heap_setCell_other _ _ _ _ (by simp)).trans HM2.out)
    · exact ((((HB2.out.setCell (by simp) _).setCell (by simp) _).setCell (by simp) _).setCell (by simp) _)
  | true =>
    rw [h] at CI
    have HR := Lib.hid (show Vs.pancR (by_ s) loc = (((((Pm.at_ (by_ s) 20 4 : Nat) : Int), ((Pm.at_ (by_ s) 16 4 / 2048 : Nat) : Int)), (((Pm.at_ (by_ s) 28 4 : Nat) : Int), ((Pm.at_ (by_ s) 24 4 / 2048 : Nat) : Int))), 0) from if_pos h)
    have hl := Vs.isB_len h
    rw [Vs.by_len] at hl
    have C1 := Lib.hid (fun W => r36ReadExtent_any s 16 16 rfl (by omega) hs W)
    have C2 := Lib.hid (fun W => r36ReadExtent_any s 24 24 rfl (by omega) hs W)
    rw [HR.out]
    simp only []
    generalize ((Pm.at_ (by_ s) 20 4 : Nat) : Int) = a at *
    generalize ((Pm.at_ (by_ s) 16 4 / 2048 : Nat) : Int) = b at *
    generalize ((Pm.at_ (by_ s) 28 4 : Nat) : Int) = c at *
    generalize ((Pm.at_ (by_ s) 24 4 / 2048 : Nat) : Int) = d at *
    clear h HR hl
    go_enter Tryz.func15, Tryz.ntmps15
    go_wp2_with fail
    with_reducible refine (CI.out _).mono ?_
    rintro e w2 ⟨rfl, hb2⟩
    have hs2 := hb2.size
    simp only [World.size_alloc] at hs2
    have HB2 := Lib.hid (HB0.out.trans (hb2.mono HB0.out.size))
    have HM1 := Lib.hid ((hb2.block w.heap.size (by simp; omega)).trans HN1.out)
    have HM2 := Lib.hid ((hb2.block (w.heap.size + 1) (by simp)).trans HN2.out)
    clear hb2
    go_wp2_with fail
    with_reducible refine (C1.out _).mono ?_
    rintro e w3 ⟨rfl, hb3⟩
    have hs3 := hb3.size
    have HB3 := Lib.hid (HB2.out.trans (hb3.mono HB2.out.size))
    have HK1 := Lib.hid ((hb3.block w.heap.size (by omega)).trans HM1.out)
    have HK2 := Lib.hid ((hb3.block (w.heap.size + 1) (by omega)).trans HM2.out)
    clear hb3 HM1 HM2
    go_wp2_with fail
    with_reducible refine (C2.out _).mono ?_
    rintro e w4 ⟨rfl, hb4⟩
    have HB4 := Lib.hid (HB3.out.trans (hb4.mono HB3.out.size))
    have HM1 := Lib.hid ((hb4.block w.heap.size (by omega)).trans HK1.out)
    have HM2 := Lib.hid ((hb4.block (w.heap.size + 1) (by omega)).trans HK2.out)
    clear hb4 HK1 HK2
    have c0 := cell_of_row _ _ 0 _ _ _ HM1.out
    have c1 := cell_of_row _ _ 1 _ _ _ HM1.out
    have c2 := cell_of_row _ _ 0 _ _ _ HM2.out
    have c3 := cell_of_row _ _ 1 _ _ _ HM2.out
    have hfj := fun j => frozen_of_row _ _ j _ _ HM1.out
    have hfk := fun j => frozen_of_row _ _ j _ _ HM2.out
    simp only [List.getElem?_toArray, List.getElem?_cons_zero, List.getElem?_cons_succ] at c0 c1 c2 c3
    go_wp2_with fail
    refine bodyPost_ret (v := .tuple #[.agg #[.int .i64 a, .int .i64 b], .agg #[.int .i64 c, .int .i64 d], .int .i64 0]) (res_cct rfl _ _ w.heap.size 23 #[.int .i64 a, .int .i64 b] (0, 0) (w.heap.size + 1) 23 #[.int .i64 c, .int .i64 d] (0, 0) _ rfl ?_ rfl ?_ Tryz.underlying23 rfl (by kernel_rfl) (by kernel_rfl) _ rfl) rfl ⟨rfl, ?_⟩
    · refine (heap_setCell_other _ _ _ _ (by simp)).trans ((heap_setCell_other _ _ _ _ (by simp)).trans ?_)
      exact Vs.row2 HM1.out _ _
    · refine Vs.row2 (a := .int .i64 0) (b := .int .i64 0) ?_ _ _
      exact (heap_setCell_other _ _ _ _ (by simp)).trans ((heap_setCell_other _ _ _ _ (by simp)).trans HM2.out)
    · exact ((((HB4.out.setCell (by simp) _).setCell (by simp) _).setCell (by simp) _).setCell (by simp) _)

namespace Vs
/-- A list of strings under way: an owned row. -/
structure SR (w W : World) (v : Value) (l : List ByteArray) : Prop where
  own : W.ownsRow w.heap.size 9 1 v l.length (strs l)
  bel : Below w.heap.size w W
theorem SR.below {w W W' : World} {v : Value} {l : List ByteArray} (h : SR w W v l) (hb : Below W.heap.size W W') : SR w W' v l :=
  ⟨Kit.own_below h.own hb, h.bel.trans (hb.mono h.bel.size)⟩
theorem SR.app {w W : World} {ops : Array Oper} {rest : List Oper} {o : Oper} {a : Act} {Q : Exit → Act → World → Prop} {v : Value} {l : List ByteArray} (h : SR w W v l) (hl : l.length ≤ 1000) (k : ByteArray) (hgd : o.guard = none) (s x : Operand)
    (ho : o.op = .call { callee := .builtin .append, args := #[s, x], argTypes := #[31, 31] }) (hs : a.eval s = v) (hx : a.eval x = .slice (some ⟨W.heap.size, 0, none⟩) 1 1)
    (hk : ∀ v' w', SR w w' v' (l ++ [k]) → wpList Tryz.prog ops Q rest (a.put o.dst v') w') : wpList Tryz.prog ops Q (o :: rest) a (W.alloc (.cells #[.string k] 9)) := by
  refine Kit.app strInfo rfl (by decide) hgd s x 31 ho Tryz.underlying31 w.heap.size v l.length (strs l) hs h.own [.string k] 1 1 hx rfl (Kit.one1 rfl) (by omega) h.bel.size ?_
  intro v' w' ho' hb'
  refine hk v' w' ⟨?_, h.bel.trans hb'⟩
  rw [List.length_append]
  have e : strs (l ++ [k]) = strs l ++ [.string k] := by simp [strs]
  rw [e]
  exact ho'
theorem SR.nil (w : World) : SR w (w.alloc (.cells #[] 9)) (.slice (some ⟨w.heap.size, 0, none⟩) 0 0) [] := ⟨Kit.own_nil w _, (Below.refl _ _).alloc (Nat.le_refl _) _⟩
theorem FR.app2 {w W : World} {ops : Array Oper} {rest : List Oper} {o : Oper} {a : Act} {Q : Exit → Act → World → Prop} {v : Value} {l : List Int} (h : FR w W v l) (hl : l.length ≤ 100000) (k : Int) (hgd : o.guard = none) (s x : Operand)
    (ho : o.op = .call { callee := .builtin .append, args := #[s, x], argTypes := #[34, 34] }) (hs : a.eval s = v) (hx : a.eval x = .slice (some ⟨W.heap.size, 0, none⟩) 1 1)
    (hk : ∀ v' w', FR w w' v' (l ++ [k]) → wpList Tryz.prog ops Q rest (a.put o.dst v') w') : wpList Tryz.prog ops Q (o :: rest) a (W.alloc (.cells #[.int .i64 k] 3)) := by
  refine Kit.app intInfo rfl (by decide) hgd s x 34 ho Tryz.underlying34 w.heap.size v l.length (Kit.izs l) hs h.own [.int .i64 k] 1 1 hx rfl (Kit.one1 rfl) (by omega) h.bel.size ?_
  intro v' w' ho' hb'
  refine hk v' w' ⟨?_, h.bel.trans hb'⟩
  rw [List.length_append, Kit.izs_append]
  exact ho'
theorem rec_pad {x : ByteArray} (hx : x.size = 5) (w : World) : Calls Tryz.prog 51 #[.string ((⟨#[0]⟩ : ByteArray) ++ x ++ (⟨#[1]⟩ : ByteArray)), .int .i64 2048] w fun e w' => e = .returned (.string (recB x)) ∧ Below w.heap.size w w' := by
  have h := rPad_any (([0] : List UInt8) ++ by_ x ++ ([1] : List UInt8)) 2048 (by decide) (by simp [hx]) w
  have e1 : (⟨(([0] : List UInt8) ++ by_ x ++ ([1] : List UInt8)).toArray⟩ : ByteArray) = (⟨#[0]⟩ : ByteArray) ++ x ++ (⟨#[1]⟩ : ByteArray) := by
    have hp : x = bs (by_ x) := (bs_by x).symm
    conv => rhs; rw [hp]
    show bs (([0] : List UInt8) ++ by_ x ++ ([1] : List UInt8)) = bs ([0] : List UInt8) ++ bs (by_ x) ++ bs ([1] : List UInt8)
    rw [bs_app, bs_app]
  have e2 : (⟨(([0] : List UInt8) ++ by_ x ++ ([1] : List UInt8) ++ List.replicate (2048 - (([0] : List UInt8) ++ by_ x ++ ([1] : List UInt8)).length) 0).toArray⟩ : ByteArray) = recB x := by
    have hl : (([0] : List UInt8) ++ by_ x ++ ([1] : List UInt8)).length = 7 := by simp [hx]
    rw [hl]
    unfold recB
    show bs _ = bs _
    refine congrArg bs ?_
    simp only [List.append_assoc, List.cons_append, List.nil_append]
    rfl
  rw [e1, e2] at h
  exact h
/-- The anchors among the first blocks. -/
def ancF (s c : Int) (op : Bool) (i : Nat) : List Int := ((List.range i).map fun (k : Nat) => s + (k : Int)).filter (isAnc s c op)
theorem ancF_zero (s c : Int) (op : Bool) : ancF s c op 0 = [] := rfl
theorem ancF_succ (s c : Int) (op : Bool) (i : Nat) : ancF s c op (i + 1) = ancF s c op i ++ (if isAnc s c op (s + i) = true then [s + (i : Int)] else []) := by
  unfold ancF
  rw [List.range_succ, List.map_append, List.filter_append]
  congr 1
  by_cases h : isAnc s c op (s + i) = true
  · rw [if_pos h]; simp [h]
  · rw [if_neg h]; simp [h]
theorem ancF_len (s c : Int) (op : Bool) (i : Nat) : (ancF s c op i).length ≤ i := by
  unfold ancF
  refine Nat.le_trans (List.length_filter_le _ _) ?_
  simp
end Vs

set_option maxHeartbeats 3200000 in
set_option maxRecDepth 100000 in
/-- masterdiscref36.Recognition. -/
theorem r36Recog_any (w : World) : Calls Tryz.prog 18 #[] w fun e w' => ∃ v, e = .returned v ∧ w'.ownsRow w.heap.size 9 1 v 3 (Vs.strs Vs.recL) ∧ Below w.heap.size w w' := by
  have CP := Lib.hid (fun (x : ByteArray) (h : x.size = 5) W => Vs.rec_pad h W)
  have HB0 := Lib.hid ((Below.refl w.heap.size w).alloc (Nat.le_refl _) (.cells #[.string ⟨#[66, 69, 65, 48, 49]⟩, .string ⟨#[78, 83, 82, 48, 51]⟩, .string ⟨#[84, 69, 65, 48, 49]⟩] 9))
  have HN0 := Lib.hid (heap_alloc_new w (.cells #[.string ⟨#[66, 69, 65, 48, 49]⟩, .string ⟨#[78, 83, 82, 48, 51]⟩, .string ⟨#[84, 69, 65, 48, 49]⟩] 9))
  go_enter Tryz.func18, Tryz.ntmps18
  go_wp2_with fail
  have hW1s : (w.alloc (.cells #[.string ⟨#[66, 69, 65, 48, 49]⟩, .string ⟨#[78, 83, 82, 48, 51]⟩, .string ⟨#[84, 69, 65, 48, 49]⟩] 9)).heap.size = w.heap.size + 1 := by simp
  generalize w.alloc (.cells #[.string ⟨#[66, 69, 65, 48, 49]⟩, .string ⟨#[78, 83, 82, 48, 51]⟩, .string ⟨#[84, 69, 65, 48, 49]⟩] 9) = W1 at *
  have HSN := Lib.hid (Vs.SR.nil W1)
  rw [hW1s] at HSN
  go_loopw [2, 3] (fun ov iv wr => ∃ j : Nat, j ≤ 3 ∧ iv = .int .i64 j ∧ Hid (Vs.SR W1 wr ov (Vs.recL.take j))) (fun _ iv _ => 3 - (intOf iv).toNat)
  case atStart => exact ⟨0, by omega, rfl, HSN⟩
  case round =>
    obtain ⟨j, hj, rfl, HS⟩ := hrel
    clear HSN
    by_cases hlt : j < 3
    · have hx := Vs.recI_size hlt
      have HT := Lib.hid (Vs.recL_take hlt)
      have hrow := (HS.out.bel.block w.heap.size (by omega)).trans HN0.out
      have hc : wr.cell? ⟨w.heap.size, j, none⟩ = some (.string (Vs.recI.getD j ⟨#[]⟩)) := by
        rw [cell_of_row _ _ j _ _ _ hrow]
        have : j = 0 ∨ j = 1 ∨ j = 2 := by omega
        rcases this with rfl | rfl | rfl <;> rfl
      have hll : (Vs.recL.take j).length ≤ 1000 := by rw [List.length_take]; omega
      clear hrow
      generalize Vs.recI.getD j ⟨#[]⟩ = x at *
      have CP2 := Lib.hid (fun W => CP.out x hx W)
      have hxI : (x.size : Int) = 5 := by omega
      generalize Vs.recB x = rb at *
      go_wp2_with fail
      with_reducible refine (CP2.out _).mono ?_
      rintro e w2 ⟨rfl, hb2⟩
      have HS2 := Lib.hid (HS.out.below hb2)
      clear hb2 hc
      go_wp2_with (at_builtin; refine HS2.out.app hll rb rfl _ _ rfl rfl rfl ?_)
      intro v' w3 hs3
      have HS3 := Lib.hid hs3
      clear hs3
      go_wp2_with fail
      go_roundw
      case rel => exact ⟨j + 1, by omega, by go_num, by rw [HT.out]; exact HS3⟩
      case measure => simp [intOf]; omega
    · obtain rfl : j = 3 := by omega
      go_wp2_with fail
      go_ret
      exact ⟨_, rfl, Kit.own_base HS.out.own (by omega), HB0.out.trans (HS.out.bel.mono (by omega))⟩

set_option maxHeartbeats 1600000 in
set_option maxRecDepth 100000 in
/-- masterdiscref36.Session. -/
theorem r36Session_any (s c : Int) (w : World) : Calls Tryz.prog 60 #[.agg #[.int .i64 s, .int .i64 c]] w fun e w' => e = .returned (.bool (Vs.sess s c)) ∧ Below w.heap.size w w' := by
  have HB := Lib.hid ((Below.refl w.heap.size w).alloc (Nat.le_refl _) (.cells #[.int .i64 s, .int .i64 c] 23))
  unfold Vs.sess
  by_cases h0 : 0 ≤ s
  case neg =>
    have d0 : decide (0 ≤ s) = false := decide_eq_false h0
    rw [d0]
    simp only [Bool.false_and]
    go_enter Tryz.func60, Tryz.ntmps60
    go_wp2_with fail
    go_ret
    exact ⟨rfl, HB.out⟩
  have d0 : decide (0 ≤ s) = true := decide_eq_true h0
  by_cases h1 : 1 ≤ c
  case neg =>
    have d1 : decide (1 ≤ c) = false := decide_eq_false h1
    rw [d1]
    simp only [Bool.false_and, Bool.and_false]
    go_enter Tryz.func60, Tryz.ntmps60
    go_wp2_with fail
    go_ret
    exact ⟨rfl, HB.out⟩
  have d1 : decide (1 ≤ c) = true := decide_eq_true h1
  by_cases h2 : s ≤ 4096
  case neg =>
    have d2 : decide (s ≤ 4096) = false := decide_eq_false h2
    rw [d2]
    simp only [Bool.false_and, Bool.and_false]
    go_enter Tryz.func60, Tryz.ntmps60
    go_wp2_with fail
    go_ret
    exact ⟨rfl, HB.out⟩
  have d2 : decide (s ≤ 4096) = true := decide_eq_true h2
  by_cases h3 : c ≤ 4096 - s
  case neg =>
    have d3 : decide (c ≤ 4096 - s) = false := decide_eq_false h3
    rw [d3]
    simp only [Bool.and_false]
    go_enter Tryz.func60, Tryz.ntmps60
    go_wp2_with fail
    go_ret
    exact ⟨rfl, HB.out⟩
  have d3 : decide (c ≤ 4096 - s) = true := decide_eq_true h3
  rw [d0, d1, d2, d3]
  go_enter Tryz.func60, Tryz.ntmps60
  go_wp2_with fail
  go_ret
  exact ⟨rfl, HB.out⟩

set_option maxHeartbeats 6400000 in
set_option maxRecDepth 100000 in
/-- masterdiscref36.Anchors. -/
theorem r36Anchors_any (s c : Int) (op : Bool) (w : World) : Calls Tryz.prog 21 #[.agg #[.int .i64 s, .int .i64 c], .bool op] w fun e w' => ∃ v, e = .returned v ∧ w'.ownsRow w.heap.size 3 1 v (Vs.ancR s c op).length (Kit.izs (Vs.ancR s c op)) ∧ Below w.heap.size w w' := by
  have HB0 := Lib.hid ((Below.refl w.heap.size w).alloc (Nat.le_refl _) (.cells #[.int .i64 s, .int .i64 c] 23))
  have HN0 := Lib.hid (heap_alloc_new w (.cells #[.int .i64 s, .int .i64 c] 23))
  have CS := Lib.hid (fun W => r36Session_any s c W)
  have c0 := cell_of_row _ _ 0 _ _ _ HN0.out
  have c1 := cell_of_row _ _ 1 _ _ _ HN0.out
  simp only [List.getElem?_toArray, List.getElem?_cons_zero, List.getElem?_cons_succ] at c0 c1
  by_cases hs : Vs.sess s c = true
  case neg =>
    have HR := Lib.hid (show Vs.ancR s c op = [] from if_neg hs)
    have hs' : Vs.sess s c = false := by simpa using hs
    rw [hs'] at CS
    rw [HR.out]
    clear hs hs' HR
    go_enter Tryz.func21, Tryz.ntmps21
    go_wp2_with fail
    with_reducible refine (CS.out _).mono ?_
    rintro e w2 ⟨rfl, hb2⟩
    have HB2 := Lib.hid (HB0.out.trans (hb2.mono HB0.out.size))
    clear hb2 c0 c1
    go_wp2_with fail
    go_ret
    exact ⟨_, rfl, ⟨rfl, Or.inl ⟨rfl, rfl⟩⟩, HB2.out⟩
  obtain ⟨g1, g2, g3, g4⟩ := (Vs.sess_iff s c).1 hs
  have HR := Lib.hid (show Vs.ancR s c op = Vs.ancF s c op c.toNat from if_pos hs)
  rw [hs] at CS
  rw [HR.out]
  have HIA := Lib.hid (fun k => show Vs.isAnc s c op k = (decide (k = s + 256) || (!op && (decide (k = s + c - 1 - 256) || decide (k = s + c - 1)))) from rfl)
  have HF0 := Lib.hid (Vs.ancF_zero s c op)
  have HFS := Lib.hid (Vs.ancF_succ s c op)
  have HFL := Lib.hid (Vs.ancF_len s c op)
  obtain ⟨L, hL⟩ : ∃ L, s + c - 1 = L := ⟨_, rfl⟩
  clear hs HR
  go_enter Tryz.func21, Tryz.ntmps21
  go_wp2_with fail
  with_reducible refine (CS.out _).mono ?_
  rintro e w2 ⟨rfl, hb2⟩
  have HB2 := Lib.hid (HB0.out.trans (hb2.mono HB0.out.size))
  have HN2 := Lib.hid ((hb2.block w.heap.size (by simp)).trans HN0.out)
  have HS2 := Lib.hid (show w.heap.size < w2.heap.size from (Array.getElem?_eq_some_iff.1 ((hb2.block w.heap.size (by simp)).trans HN0.out)).1)
  clear hb2 c0 c1
  have c0 := cell_of_row _ _ 0 _ _ _ HN2.out
  have c1 := cell_of_row _ _ 1 _ _ _ HN2.out
  simp only [List.getElem?_toArray, List.getElem?_cons_zero, List.getElem?_cons_succ] at c0 c1
  have HFN := Lib.hid (Vs.FR.nil w2)
  go_upto_region 5 with fail
  try rw [hL]
  clear c0 c1
  generalize w2.alloc (.cells #[] 3) = w3 at *
  have hrow := (HFN.out.bel.block w.heap.size HS2.out).trans HN2.out
  have c0 := cell_of_row _ _ 0 _ _ _ hrow
  simp only [List.getElem?_toArray, List.getElem?_cons_zero] at c0
  clear hrow
  go_wp2_with fail
  clear c0
  go_loopw [6, 7] (fun ov iv wr => ∃ (i : Nat) (K : Int), i ≤ c.toNat ∧ iv = .int .i64 K ∧ Hid (K = s + (i : Int)) ∧ Hid (Vs.FR w2 wr ov (Vs.ancF s c op i))) (fun _ iv _ => (L + 1 - intOf iv).toNat)
  case atStart => exact ⟨0, s, by omega, rfl, Lib.hid (by simp), by rw [HF0.out]; exact HFN⟩
  case round =>
    clear HFN
    obtain ⟨i, K, hi, rfl, HK, HF⟩ := hrel
    have hk := HK.out
    have hKb : 0 ≤ K ∧ K ≤ 8192 := by omega
    obtain ⟨hKb0, hKb1⟩ := hKb
    have hLb : 0 ≤ L ∧ L ≤ 8192 := by omega
    obtain ⟨hLb0, hLb1⟩ := hLb
    have HL := Lib.hid hL
    have HG := Lib.hid (show 0 ≤ s ∧ 1 ≤ c ∧ s ≤ 4096 ∧ c ≤ 4096 - s from ⟨g1, g2, g3, g4⟩)
    have hrow := (HF.out.bel.block w.heap.size HS2.out).trans HN2.out
    have c0 := cell_of_row _ _ 0 _ _ _ hrow
    have c1 := cell_of_row _ _ 1 _ _ _ hrow
    simp only [List.getElem?_toArray, List.getElem?_cons_zero, List.getElem?_cons_succ] at c0 c1
    clear hrow
    by_cases hlt : K ≤ L
    case neg =>
      have hic : i = c.toNat := by omega
      subst hic
      clear hk hL g2 g4 c0 c1
      go_wp2_with fail
      go_ret
      exact ⟨_, rfl, Kit.own_base HF.out.own (Nat.le_of_lt HS2.out), HB2.out.trans (HF.out.bel.mono HB2.out.size)⟩
    have hil : i + 1 ≤ c.toNat := by omega
    have HA := Lib.hid (HFS.out i)
    rw [← HK.out, HIA.out, HL.out] at HA
    have hfl : (Vs.ancF s c op i).length ≤ 100000 := by have := HFL.out i; omega
    generalize Vs.ancF s c op i = F at *
    clear hk hL
    have hcs : (K = s + 256) ∨ (K ≠ s + 256 ∧ op = true) ∨ (K ≠ s + 256 ∧ op = false ∧ K = L - 256) ∨ (K ≠ s + 256 ∧ op = false ∧ K ≠ L - 256 ∧ K = L) ∨ (K ≠ s + 256 ∧ op = false ∧ K ≠ L - 256 ∧ K ≠ L) := by
      by_cases a : K = s + 256
      · exact .inl a
      cases op with
      | true => exact .inr (.inl ⟨a, rfl⟩)
      | false =>
        by_cases b : K = L - 256
        · exact .inr (.inr (.inl ⟨a, rfl, b⟩))
        by_cases d : K = L
        · exact .inr (.inr (.inr (.inl ⟨a, rfl, b, d⟩)))
        exact .inr (.inr (.inr (.inr ⟨a, rfl, b, d⟩)))
    have hd : ∀ x y : Int, x ≠ y → (x == y) = false := fun x y h => by rw [beq_eq_false_iff_ne]; exact h
    rcases hcs with h | ⟨h, ho⟩ | ⟨h, ho, h2⟩ | ⟨h, ho, h2, h3⟩ | ⟨h, ho, h2, h3⟩
    · have d1 : (K == s + 256) = true := by rw [beq_iff_eq]; exact h
      have HA2 := Lib.hid (HA.out.trans (by rw [decide_eq_true h, Bool.true_or, if_pos rfl]))
      clear hd HA HIA HFS HFL g2 g4 h
      go_wp2_with (at_builtin; refine HF.out.app2 hfl K rfl _ _ rfl rfl rfl ?_)
      intro v' w3 h3'
      have HF3 := Lib.hid h3'
      clear h3'
      go_wp2_with fail
      go_roundw
      case rel => exact ⟨i + 1, K + 1, hil, rfl, Lib.hid (by rw [HK.out]; omega), by rw [HA2.out]; exact HF3⟩
      case measure => simp [intOf]; omega
    · have d1 := hd _ _ h
      subst ho
      have HA2 := Lib.hid (HA.out.trans (by rw [decide_eq_false h]; simp : _ = F))
      clear hd HA HIA HFS HFL g2 g4 h
      go_wp2_with fail
      go_roundw
      case rel => exact ⟨i + 1, K + 1, hil, rfl, Lib.hid (by rw [HK.out]; omega), by rw [HA2.out]; exact HF⟩
      case measure => simp [intOf]; omega
    · have d1 := hd _ _ h
      subst ho
      have d2 : (K == L - 256) = true := by rw [beq_iff_eq]; exact h2
      have HA2 := Lib.hid (HA.out.trans (by rw [decide_eq_false h, decide_eq_true h2]; simp : _ = F ++ [K]))
      clear hd HA HIA HFS HFL g2 g4 h h2
      go_wp2_with (at_builtin; refine HF.out.app2 hfl K rfl _ _ rfl rfl rfl ?_)
      intro v' w3 h3'
      have HF3 := Lib.hid h3'
      clear h3'
      go_wp2_with fail
      go_roundw
      case rel => exact ⟨i + 1, K + 1, hil, rfl, Lib.hid (by rw [HK.out]; omega), by rw [HA2.out]; exact HF3⟩
      case measure => simp [intOf]; omega
    · have d1 := hd _ _ h
      subst ho
      have d2 := hd _ _ h2
      have d3 : (K == L) = true := by rw [beq_iff_eq]; exact h3
      have HA2 := Lib.hid (HA.out.trans (by rw [decide_eq_false h, decide_eq_false h2, decide_eq_true h3]; simp : _ = F ++ [K]))
      clear hd HA HIA HFS HFL g2 g4 h h2 h3
      go_wp2_with (at_builtin; refine HF.out.app2 hfl K rfl _ _ rfl rfl rfl ?_)
      intro v' w3 h3'
      have HF3 := Lib.hid h3'
      clear h3'
      go_wp2_with fail
      go_roundw
      case rel => exact ⟨i + 1, K + 1, hil, rfl, Lib.hid (by rw [HK.out]; omega), by rw [HA2.out]; exact HF3⟩
      case measure => simp [intOf]; omega
    · have d1 := hd _ _ h
      subst ho
      have d2 := hd _ _ h2
      have d3 := hd _ _ h3
      have HA2 := Lib.hid (HA.out.trans (by rw [decide_eq_false h, decide_eq_false h2, decide_eq_false h3]; simp : _ = F))
      clear hd HA HIA HFS HFL g2 g4 h h2 h3
      go_wp2_with fail
      go_roundw
      case rel => exact ⟨i + 1, K + 1, hil, rfl, Lib.hid (by rw [HK.out]; omega), by rw [HA2.out]; exact HF⟩
      case measure => simp [intOf]; omega
end Go.Proofs.YthkppbimkjmbnaaGreatDoor

/-
  The walk through VolumeseqAnchors.
-/
namespace Go.Proofs.YthkppbimkjmbnaaGreatDoor
set_option linter.unusedVariables false
open Go.RowKit Go.Maps
open Vs (bs by_)
namespace Vs
theorem tri_2 (w : World) (x y z : Obj) : (((w.alloc x).alloc y).alloc z).heap[w.heap.size + 2]? = some z := by
  have := heap_alloc_new ((w.alloc x).alloc y) z
  rwa [World.size_alloc, World.size_alloc] at this
theorem tri_1 (w : World) (x y z : Obj) : (((w.alloc x).alloc y).alloc z).heap[w.heap.size + 1]? = some y := by
  have := heap_alloc2_old (w.alloc x) y z
  rwa [World.size_alloc] at this
theorem tri_0 (w : World) (x y z : Obj) : (((w.alloc x).alloc y).alloc z).heap[w.heap.size]? = some x := by
  have h := heap_alloc2_old w x y
  have hb := (Below.refl ((w.alloc x).alloc y).heap.size ((w.alloc x).alloc y)).alloc (Nat.le_refl _) z
  exact (hb.block _ (Array.getElem?_eq_some_iff.1 h).1).trans h
end Vs
/-- slices.Equal of strings that are the same. -/
theorem eqStrs_any (v1 v2 : Value) (l : List ByteArray) (w : World) (h1 : Kit.Row w v1 (Vs.strs l)) (h2 : Kit.Row w v2 (Vs.strs l)) (hl : l.length ≤ 1000) :
    Calls Tryz.prog 16 #[v1, v2] w fun e w' => e = .returned (.bool true) ∧ Below w.heap.size w w' := by
  obtain ⟨A1, c1, rfl, _, _, hc1⟩ := h1
  obtain ⟨A2, c2, rfl, _, _, hc2⟩ := h2
  rw [Vs.strs_len] at *
  have hg : ∀ j, j < l.length → (Vs.strs l)[j]? = some (.string (l.getD j ⟨#[]⟩)) := fun j hj => by simp [Vs.strs, List.getD, hj]
  by_cases h0 : l.length = 0
  · rw [h0]
    refine (Tryz.slices_Equal_string_empty A1 A2 c1 0 c2 w (by decide)).mono fun e w' ⟨he, hw⟩ => ⟨he, hw ▸ Below.refl _ _⟩
  · obtain ⟨b1, o1, rfl, _, hx1⟩ := hc1 (by omega)
    obtain ⟨b2, o2, rfl, _, hx2⟩ := hc2 (by omega)
    refine (Tryz.slices_Equal_string b1 o1 l.length c1 b2 o2 l.length c2 l l w (Nat.le_refl _) (Nat.le_refl _) (by omega) (by omega) (fun j hj => hx1 j _ (hg j hj)) (fun j hj => hx2 j _ (hg j hj))).mono fun e w' ⟨he, q, hw⟩ => ⟨?_, hw ▸ Kit.below_drewN q⟩
    rw [he, decide_eq_true rfl]
/-- slices.Equal of ints that are the same. -/
theorem eqInts_any (v1 v2 : Value) (l : List Int) (w : World) (h1 : Kit.Row w v1 (Kit.izs l)) (h2 : Kit.Row w v2 (Kit.izs l)) (hl : l.length ≤ 100000) :
    Calls Tryz.prog 19 #[v1, v2] w fun e w' => e = .returned (.bool true) ∧ Below w.heap.size w w' := by
  obtain ⟨A1, c1, rfl, _, _, hc1⟩ := h1
  obtain ⟨A2, c2, rfl, _, _, hc2⟩ := h2
  have hzl : (Kit.izs l).length = l.length := by simp [Kit.izs]
  rw [hzl] at hc1 hc2 ⊢
  have hg : ∀ j, j < l.length → (Kit.izs l)[j]? = some (.int .i64 (l.getD j 0)) := fun j hj => by simp [Kit.izs, List.getD, hj]
  by_cases h0 : l.length = 0
  · rw [h0]
    refine (Tryz.slices_Equal_int_empty A1 A2 c1 0 c2 w (by decide)).mono fun e w' ⟨he, hw⟩ => ⟨he, hw ▸ Below.refl _ _⟩
  · obtain ⟨b1, o1, rfl, _, hx1⟩ := hc1 (by omega)
    obtain ⟨b2, o2, rfl, _, hx2⟩ := hc2 (by omega)
    refine (Tryz.slices_Equal_int b1 o1 l.length c1 b2 o2 l.length c2 l l w (Nat.le_refl _) (Nat.le_refl _) (by omega) (by omega) (fun j hj => hx1 j _ (hg j hj)) (fun j hj => hx2 j _ (hg j hj))).mono fun e w' ⟨he, q, hw⟩ => ⟨?_, hw ▸ Kit.below_drewN q⟩
    rw [he, beq_self_eq_true]

set_option maxHeartbeats 12800000 in
set_option maxRecDepth 100000 in
/-- VolumeseqAnchors. -/
theorem lawAnchors_any (s c : Int) (op : Bool) (loc ms mc rs rc : Int) (b : ByteArray) (w : World) (m : Int) (hT : Lib.Utf8Tabs 1 2 w) (hM : w.cell? ⟨0, 0, none⟩ = some (.int .i64 m)) :
    Calls Tryz.prog 3 #[.agg #[.int .i64 s, .int .i64 c], .bool op, .int .i64 loc, .agg #[.int .i64 ms, .int .i64 mc], .agg #[.int .i64 rs, .int .i64 rc], .string b] w fun e w' => e = .returned (.bool true) ∧ Below w.heap.size w w' := by
  have HT := Lib.hid hT
  have HM := Lib.hid hM
  have CA := Lib.hid (fun W h1 h2 => awake_any W m h1 h2)
  have HB0 := Lib.hid ((((Below.refl w.heap.size w).alloc (Nat.le_refl _) (.cells #[.int .i64 s, .int .i64 c] 23)).alloc (by simp) (.cells #[.int .i64 ms, .int .i64 mc] 23)).alloc (by simp; omega) (.cells #[.int .i64 rs, .int .i64 rc] 23))
  have HS0 := Lib.hid (Vs.tri_0 w (.cells #[.int .i64 s, .int .i64 c] 23) (.cells #[.int .i64 ms, .int .i64 mc] 23) (.cells #[.int .i64 rs, .int .i64 rc] 23))
  have HM0 := Lib.hid (Vs.tri_1 w (.cells #[.int .i64 s, .int .i64 c] 23) (.cells #[.int .i64 ms, .int .i64 mc] 23) (.cells #[.int .i64 rs, .int .i64 rc] 23))
  have HR0 := Lib.hid (Vs.tri_2 w (.cells #[.int .i64 s, .int .i64 c] 23) (.cells #[.int .i64 ms, .int .i64 mc] 23) (.cells #[.int .i64 rs, .int .i64 rc] 23))
  have C1 := Lib.hid (fun W => vAnchor_any loc ms mc rs rc W)
  have C2 := Lib.hid (fun W => r36Anchor_any loc ms mc rs rc W)
  have C3 := Lib.hid (fun W q => vParseAnchor_any b loc W q)
  have C4 := Lib.hid (fun W q => r36ParseAnchor_any b loc W q)
  have D0 := Lib.hid (fun W => recog_any W)
  have D1 := Lib.hid (fun W => r36Recog_any W)
  have D3 := Lib.hid (fun W => anchors_any s c op W)
  have D4 := Lib.hid (fun W => r36Anchors_any s c op W)
  have hrl : Vs.recL.length = 3 := rfl
  have hal : (Vs.ancR s c op).length ≤ 100000 := by
    unfold Vs.ancR
    split
    · rename_i h
      have := (Vs.sess_iff s c).1 h
      refine Nat.le_trans (List.length_filter_le _ _) ?_
      rw [List.length_map, List.length_range]
      omega
    · simp
  have D2 := Lib.hid (fun v1 v2 W h1 h2 => eqStrs_any v1 v2 Vs.recL W h1 h2 (by omega))
  have D5 := Lib.hid (fun v1 v2 W h1 h2 => eqInts_any v1 v2 (Vs.ancR s c op) W h1 h2 hal)
  simp only [Vs.spV] at C3 C4
  generalize Vs.anchorR loc ms mc rs rc = AR at *
  generalize Vs.pancR (by_ b) loc = PR at *
  generalize Vs.recL = RL at *
  generalize Vs.ancR s c op = AL at *
  obtain ⟨AS, ae⟩ := AR
  obtain ⟨⟨⟨p0, p1⟩, ⟨p2, p3⟩⟩, pe⟩ := PR
  simp only [] at *
  generalize bs AS = AB at *
  clear hT hM hal hrl
  go_enter Tryz.func3, Tryz.ntmps3
  go_wp2_with fail
  generalize ((w.alloc (.cells #[.int .i64 s, .int .i64 c] 23)).alloc (.cells #[.int .i64 ms, .int .i64 mc] 23)).alloc (.cells #[.int .i64 rs, .int .i64 rc] 23) = w0 at *
  with_reducible refine (CA.out _ (Kit.tabs_below HT.out HB0.out) ((HB0.out.cell (p := ⟨0, 0, none⟩) (World.block_lt_of_cell? _ _ HM.out)).trans HM.out)).mono ?_
  rintro e w1 ⟨rfl, hb1⟩
  have HZ := Lib.hid hb1
  have HEND := Lib.hid (show ∀ W, Below w0.heap.size w0 W → Below w.heap.size w W from fun W h => HB0.out.trans (h.mono HB0.out.size))
  have HS := Lib.hid (show ∀ W, Below w0.heap.size w0 W → W.heap[w.heap.size]? = some (.cells #[.int .i64 s, .int .i64 c] 23 (0, 0)) from fun W h => (h.block _ (Array.getElem?_eq_some_iff.1 HS0.out).1).trans HS0.out)
  have HMn := Lib.hid (show ∀ W, Below w0.heap.size w0 W → W.heap[w.heap.size + 1]? = some (.cells #[.int .i64 ms, .int .i64 mc] 23 (0, 0)) from fun W h => (h.block _ (Array.getElem?_eq_some_iff.1 HM0.out).1).trans HM0.out)
  have HRs := Lib.hid (show ∀ W, Below w0.heap.size w0 W → W.heap[w.heap.size + 2]? = some (.cells #[.int .i64 rs, .int .i64 rc] 23 (0, 0)) from fun W h => (h.block _ (Array.getElem?_eq_some_iff.1 HR0.out).1).trans HR0.out)
  clear hb1 HB0 HS0 HM0 HR0 CA HT HM
  by_cases hb : b.size ≤ 2100
  case neg =>
    have d1 : decide ((2100 : Int) < (b.size : Int)) = true := decide_eq_true (by omega)
    clear hb
    go_wp2_with fail
    go_ret
    exact ⟨rfl, HEND.out _ HZ.out⟩
  have d1 : decide ((2100 : Int) < (b.size : Int)) = false := decide_eq_false (by omega)
  have C3' := Lib.hid (fun W => C3.out W (by omega))
  have C4' := Lib.hid (fun W => C4.out W (by omega))
  clear C3 C4 hb
  have m0 := cell_of_row _ _ 0 _ _ _ (HMn.out _ HZ.out)
  have m1 := cell_of_row _ _ 1 _ _ _ (HMn.out _ HZ.out)
  have r0 := cell_of_row _ _ 0 _ _ _ (HRs.out _ HZ.out)
  have r1 := cell_of_row _ _ 1 _ _ _ (HRs.out _ HZ.out)
  simp only [List.getElem?_toArray, List.getElem?_cons_zero, List.getElem?_cons_succ] at m0 m1 r0 r1
  go_wp2_with fail
  with_reducible refine (C1.out _).mono ?_
  rintro e w2 ⟨rfl, hb2⟩
  have HZ2 := Lib.hid (HZ.out.trans (hb2.mono HZ.out.size))
  clear hb2 m0 m1 r0 r1 HZ
  have m0 := cell_of_row _ _ 0 _ _ _ (HMn.out _ HZ2.out)
  have m1 := cell_of_row _ _ 1 _ _ _ (HMn.out _ HZ2.out)
  have r0 := cell_of_row _ _ 0 _ _ _ (HRs.out _ HZ2.out)
  have r1 := cell_of_row _ _ 1 _ _ _ (HRs.out _ HZ2.out)
  simp only [List.getElem?_toArray, List.getElem?_cons_zero, List.getElem?_cons_succ] at m0 m1 r0 r1
  go_wp2_with fail
  with_reducible refine (C2.out _).mono ?_
  rintro e w3 ⟨rfl, hb3⟩
  have HZ3 := Lib.hid (HZ2.out.trans (hb3.mono HZ2.out.size))
  clear hb3 m0 m1 r0 r1 HZ2 HMn HRs
  go_wp2_with fail
  with_reducible refine (C3'.out _).mono ?_
  rintro e w4 ⟨rfl, hb4⟩
  have HZ4 := Lib.hid (HZ3.out.trans (hb4.mono HZ3.out.size))
  clear hb4 HZ3
  go_upto_region 8 with fail
  have hal := ((Below.refl w4.heap.size w4).alloc (Nat.le_refl _) (.cells #[.int .i64 p0, .int .i64 p1] 23)).alloc (by simp) (.cells #[.int .i64 p2, .int .i64 p3] 23)
  have HZ5 := Lib.hid (HZ4.out.trans (hal.mono HZ4.out.size))
  have HP5 := Lib.hid (heap_alloc2_old w4 (.cells #[.int .i64 p0, .int .i64 p1] 23) (.cells #[.int .i64 p2, .int .i64 p3] 23))
  have HQ5 := Lib.hid (heap_alloc2_new w4 (.cells #[.int .i64 p0, .int .i64 p1] 23) (.cells #[.int .i64 p2, .int .i64 p3] 23))
  clear hal HZ4
  generalize (w4.alloc (.cells #[.int .i64 p0, .int .i64 p1] 23)).alloc (.cells #[.int .i64 p2, .int .i64 p3] 23) = w5 at *
  generalize w4.heap.size = g4 at *
  go_wp2_with fail
  with_reducible refine (C4'.out _).mono ?_
  rintro e w6 ⟨rfl, hb6⟩
  have HZ6 := Lib.hid (HZ5.out.trans (hb6.mono HZ5.out.size))
  have HP6 := Lib.hid ((hb6.block _ (Array.getElem?_eq_some_iff.1 HP5.out).1).trans HP5.out)
  have HQ6 := Lib.hid ((hb6.block _ (Array.getElem?_eq_some_iff.1 HQ5.out).1).trans HQ5.out)
  clear hb6 HZ5 HP5 HQ5
  go_upto_region 9 with fail
  have hal := ((Below.refl w6.heap.size w6).alloc (Nat.le_refl _) (.cells #[.int .i64 p0, .int .i64 p1] 23)).alloc (by simp) (.cells #[.int .i64 p2, .int .i64 p3] 23)
  have HZ7 := Lib.hid (HZ6.out.trans (hal.mono HZ6.out.size))
  have HP7 := Lib.hid ((hal.block _ (Array.getElem?_eq_some_iff.1 HP6.out).1).trans HP6.out)
  have HQ7 := Lib.hid ((hal.block _ (Array.getElem?_eq_some_iff.1 HQ6.out).1).trans HQ6.out)
  have HU7 := Lib.hid (heap_alloc2_old w6 (.cells #[.int .i64 p0, .int .i64 p1] 23) (.cells #[.int .i64 p2, .int .i64 p3] 23))
  have HV7 := Lib.hid (heap_alloc2_new w6 (.cells #[.int .i64 p0, .int .i64 p1] 23) (.cells #[.int .i64 p2, .int .i64 p3] 23))
  clear hal HZ6 HP6 HQ6
  generalize (w6.alloc (.cells #[.int .i64 p0, .int .i64 p1] 23)).alloc (.cells #[.int .i64 p2, .int .i64 p3] 23) = w7 at *
  generalize w6.heap.size = g6 at *
  have HSM := Lib.hid (show ∀ w', Below w7.heap.size w7 w' → (Below w7.heap.size w7 w' ∧ w'.cell? ⟨w.heap.size, 0, none⟩ = some (.int .i64 s) ∧ w'.cell? ⟨w.heap.size, 1, none⟩ = some (.int .i64 c) ∧ w'.cell? ⟨g4, 0, none⟩ = some (.int .i64 p0) ∧ w'.cell? ⟨g4, 1, none⟩ = some (.int .i64 p1) ∧ w'.cell? ⟨g4 + 1, 0, none⟩ = some (.int .i64 p2) ∧ w'.cell? ⟨g4 + 1, 1, none⟩ = some (.int .i64 p3) ∧ w'.cell? ⟨g6, 0, none⟩ = some (.int .i64 p0) ∧ w'.cell? ⟨g6, 1, none⟩ = some (.int .i64 p1) ∧ w'.cell? ⟨g6 + 1, 0, none⟩ = some (.int .i64 p2) ∧ w'.cell? ⟨g6 + 1, 1, none⟩ = some (.int .i64 p3)) from fun w' h => by
    have h1 := HS.out w' (HZ7.out.trans (h.mono HZ7.out.size))
    have h2 := (h.block _ (Array.getElem?_eq_some_iff.1 HP7.out).1).trans HP7.out
    have h3 := (h.block _ (Array.getElem?_eq_some_iff.1 HQ7.out).1).trans HQ7.out
    have h4 := (h.block _ (Array.getElem?_eq_some_iff.1 HU7.out).1).trans HU7.out
    have h5 := (h.block _ (Array.getElem?_eq_some_iff.1 HV7.out).1).trans HV7.out
    exact ⟨h, cell_of_row _ _ 0 _ _ _ h1, cell_of_row _ _ 1 _ _ _ h1, cell_of_row _ _ 0 _ _ _ h2, cell_of_row _ _ 1 _ _ _ h2, cell_of_row _ _ 0 _ _ _ h3, cell_of_row _ _ 1 _ _ _ h3, cell_of_row _ _ 0 _ _ _ h4, cell_of_row _ _ 1 _ _ _ h4, cell_of_row _ _ 0 _ _ _ h5, cell_of_row _ _ 1 _ _ _ h5⟩)
  have HE7 := Lib.hid (show ∀ W, Below w7.heap.size w7 W → Below w.heap.size w W from fun W h => HEND.out _ (HZ7.out.trans (h.mono HZ7.out.size)))
  clear HS HP7 HQ7 HU7 HV7 HZ7 HEND C1 C2 C3' C4' d1
  go_region_held3 (fun w' => Below w7.heap.size w7 w' ∧ w'.cell? ⟨w.heap.size, 0, none⟩ = some (.int .i64 s) ∧ w'.cell? ⟨w.heap.size, 1, none⟩ = some (.int .i64 c) ∧ w'.cell? ⟨g4, 0, none⟩ = some (.int .i64 p0) ∧ w'.cell? ⟨g4, 1, none⟩ = some (.int .i64 p1) ∧ w'.cell? ⟨g4 + 1, 0, none⟩ = some (.int .i64 p2) ∧ w'.cell? ⟨g4 + 1, 1, none⟩ = some (.int .i64 p3) ∧ w'.cell? ⟨g6, 0, none⟩ = some (.int .i64 p0) ∧ w'.cell? ⟨g6, 1, none⟩ = some (.int .i64 p1) ∧ w'.cell? ⟨g6 + 1, 0, none⟩ = some (.int .i64 p2) ∧ w'.cell? ⟨g6 + 1, 1, none⟩ = some (.int .i64 p3)) (first | exact HSM.out _ (Below.refl _ _).drew | (have hq := ‹Below w7.heap.size w7 _ ∧ _›; exact HSM.out _ (hq.1.trans (hb.mono hq.1.size))) | assumption) (first | (with_reducible refine (D0.out _).mono ?_; rintro e wa ⟨v0, rfl, ho, hb⟩; have R0 := Lib.hid (Kit.Row.of_own ho); clear ho) | (with_reducible refine (D1.out _).mono ?_; rintro e wb ⟨v1, rfl, ho, hb⟩; have R1 := Lib.hid (Kit.Row.of_own ho); have R0 := Lib.hid (R0.out.below hb); clear ho) | (with_reducible refine (D2.out _ _ _ R0.out R1.out).mono ?_; rintro e wc ⟨rfl, hb⟩) | (with_reducible refine (D3.out _).mono ?_; rintro e wd ⟨v2, rfl, ho, hb⟩; have R2 := Lib.hid (Kit.Row.of_own ho); clear ho) | (with_reducible refine (D4.out _).mono ?_; rintro e we ⟨v3, rfl, ho, hb⟩; have R3 := Lib.hid (Kit.Row.of_own ho); have R2 := Lib.hid (R2.out.below hb); clear ho) | (with_reducible refine (D5.out _ _ _ R2.out R3.out).mono ?_; rintro e wf ⟨rfl, hb⟩))
  go_wp2_with fail
  go_ret
  exact ⟨rfl, HE7.out _ (And.left ‹Below w7.heap.size w7 _ ∧ _›)⟩
end Go.Proofs.YthkppbimkjmbnaaGreatDoor

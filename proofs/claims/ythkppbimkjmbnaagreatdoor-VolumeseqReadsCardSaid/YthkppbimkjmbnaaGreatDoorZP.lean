/-
  The walks through the closures that put the fields of descriptors.
-/
import Derived.Test.YthkppbimkjmbnaaGreatDoorZO
namespace Go.Proofs.YthkppbimkjmbnaaGreatDoor
open Go.RowKit
open Vs (bs by_)
namespace Vs
structure Fst (w0 W0 W : World) (ob : Nat) (L : List UInt8) : Prop where
  img : Img W ob L
  bel0 : Below w0.heap.size w0 W
  bel : Below ob W0 W
theorem Fst.below {w0 W0 W W' : World} {ob : Nat} {L : List UInt8} (h : Fst w0 W0 W ob L) (hb : Below W.heap.size W W') : Fst w0 W0 W' ob L :=
  ⟨h.img.below hb h.img.lt, h.bel0.trans (hb.mono h.bel0.size), h.bel.trans (hb.mono (Nat.le_of_lt h.img.lt))⟩
theorem Fst.put {w0 W0 W W' : World} {ob : Nat} {L L' : List UInt8} (h : Fst w0 W0 W ob L) (ho : w0.heap.size ≤ ob) (hi : Img W' ob L') (hb : Below ob W W') : Fst w0 W0 W' ob L' :=
  ⟨hi, h.bel0.trans (hb.mono ho), h.bel.trans hb⟩
end Vs
theorem vN4 (n : Int) (h0 : 0 ≤ n) (h1 : n < 4294967296) (w : World) : Calls Tryz.prog 67 #[.int .i64 n, .int .i64 4] w fun e w' => e = .returned (.string (bs (Vs.n4 n))) ∧ Below w.heap.size w w' := vLittle_any n 4 4 rfl (by unfold Pm.Sz; omega) (Vs.n4_fit h0 h1) w
theorem vN2 (n : Int) (h0 : 0 ≤ n) (h1 : n < 65536) (w : World) : Calls Tryz.prog 67 #[.int .i64 n, .int .i64 2] w fun e w' => e = .returned (.string (bs (Vs.n2 n))) ∧ Below w.heap.size w w' := vLittle_any n 2 2 rfl (by unfold Pm.Sz; omega) (Vs.n2_fit h0 h1) w
theorem vCs (w : World) : Calls Tryz.prog 69 #[] w fun e w' => e = .returned (.string (bs Vs.csL)) ∧ Below w.heap.size w w' := charspec_any w
theorem vCont (w : World) : Calls Tryz.prog 64 #[.string ⟨#[43, 78, 83, 82, 48, 51]⟩, .string ⟨#[]⟩] w fun e w' => e = .returned (.string (bs Vs.contL)) ∧ Below w.heap.size w w' := vEntity_any _ _ w (by decide) (by decide)
theorem vImpl (w : World) : Calls Tryz.prog 64 #[.string ⟨#[42, 109, 97, 115, 116, 101, 114, 100, 105, 115, 99]⟩, .string ⟨#[]⟩] w fun e w' => e = .returned (.string (bs Vs.implL)) ∧ Below w.heap.size w w' := vEntity_any _ _ w (by decide) (by decide)
theorem vDom (w : World) : Calls Tryz.prog 64 #[.string ⟨#[42, 79, 83, 84, 65, 32, 85, 68, 70, 32, 67, 111, 109, 112, 108, 105, 97, 110, 116]⟩, .string ⟨#[1, 2]⟩] w fun e w' => e = .returned (.string (bs Vs.domL)) ∧ Below w.heap.size w w' := vEntity_any _ _ w (by decide) (by decide)

set_option maxHeartbeats 12800000 in
set_option maxRecDepth 100000 in
/-- Sequence$2: the primary volume descriptor. -/
theorem fillPrim_any (w : World) (vb ib : Nat) (v : Vs.Vol) (hv : Vs.okVol v = true) (hn : Vs.textB (by_ v.name) = true) (s1 : v.name.size ≤ 9223372036854775807) (s2 : v.set.size ≤ 9223372036854775807) (hvb : w.heap[vb]? = some (.cells (Vs.volC v) 38 (0, 0))) (hib : w.heap[ib]? = some (.cells #[.string (bs Vs.implL)] 9 (0, 0))) (hT : Lib.Utf8Tabs 1 2 w) :
    Vs.Fills 66 #[.pointer (some ⟨vb, 0, none⟩), .pointer (some ⟨ib, 0, none⟩)] w (Vs.fillL [(16, Vs.n4 1), (24, Vs.fldL (by_ v.name) 32), (56, Vs.n2 v.number ++ Vs.n2 v.discs ++ Vs.n2 3 ++ Vs.n2 3 ++ Vs.n4 1 ++ Vs.n4 1), (72, Vs.fldL (by_ v.set) 128), (200, Vs.csL ++ Vs.csL), (376, Vs.stampR v.time ++ Vs.implL)] []) := by
  refine ⟨enters_of Tryz.func66 (by kernel_rfl) rfl, fun W0 ob hb hob hI => ?_⟩
  unfold Vs.volC at hvb
  obtain ⟨k1, k2, k3, k4, k5, k6⟩ := (Vs.okVol_iff v).1 hv
  clear hv
  have HO := Lib.hid hob
  have HS0 := Lib.hid (show Vs.Fst w W0 W0 ob [] from ⟨hI, hb, Below.refl _ _⟩)
  have HTW := Lib.hid (fun W (h : Below w.heap.size w W) => Kit.tabs_below hT h)
  have HLvb := Lib.hid (show vb < w.heap.size from (Array.getElem?_eq_some_iff.1 hvb).1)
  have HRvb := Lib.hid (fun W (h : Below w.heap.size w W) => (h.block vb HLvb.out).trans hvb)
  have HLib := Lib.hid (show ib < w.heap.size from (Array.getElem?_eq_some_iff.1 hib).1)
  have HRib := Lib.hid (fun W (h : Below w.heap.size w W) => (h.block ib HLib.out).trans hib)
  have C0 := Lib.hid (fun W => vN4 1 (by decide) (by decide) W)
  have C1 := Lib.hid (fun W (h : Lib.Utf8Tabs 1 2 W) => vField_any v.name 32 W h s1 (by decide))
  have C2 := Lib.hid (fun W => vN2 v.number (by omega) (by omega) W)
  have C3 := Lib.hid (fun W => vN2 v.discs (by omega) (by omega) W)
  have C4 := Lib.hid (fun W => vN2 3 (by decide) (by decide) W)
  have C5 := Lib.hid (fun W (h : Lib.Utf8Tabs 1 2 W) => vField_any v.set 128 W h s2 (by decide))
  have C6 := Lib.hid (fun W => vCs W)
  have C7 := Lib.hid (fun W => vStamp_any v.time W k6)
  have HF0 := Lib.hid (show by_ (bs (Vs.n4 1)) = Vs.n4 1 by first | rfl | (simp only [Vs.by_app]; rfl))
  have p0 : (Vs.n4 1).length = 4 := by simp only [Vs.n4_len _]
  have HF1 := Lib.hid (show by_ (bs (Vs.fldL (by_ v.name) 32)) = Vs.fldL (by_ v.name) 32 by first | rfl | (simp only [Vs.by_app]; rfl))
  have p1 : (Vs.fldL (by_ v.name) 32).length = 32 := by simp only [Vs.fld32 hn]
  have HF2 := Lib.hid (show by_ (bs (Vs.n2 v.number) ++ bs (Vs.n2 v.discs) ++ bs (Vs.n2 3) ++ bs (Vs.n2 3) ++ bs (Vs.n4 1) ++ bs (Vs.n4 1)) = Vs.n2 v.number ++ Vs.n2 v.discs ++ Vs.n2 3 ++ Vs.n2 3 ++ Vs.n4 1 ++ Vs.n4 1 by first | rfl | (simp only [Vs.by_app]; rfl))
  have p2 : (Vs.n2 v.number ++ Vs.n2 v.discs ++ Vs.n2 3 ++ Vs.n2 3 ++ Vs.n4 1 ++ Vs.n4 1).length = 2 + 2 + 2 + 2 + 4 + 4 := by simp only [List.length_append, Vs.n2_len _, Vs.n4_len _]
  have HF3 := Lib.hid (show by_ (bs (Vs.fldL (by_ v.set) 128)) = Vs.fldL (by_ v.set) 128 by first | rfl | (simp only [Vs.by_app]; rfl))
  have p3 : (Vs.fldL (by_ v.set) 128).length = 128 := by simp only [Vs.fld128 k1]
  have HF4 := Lib.hid (show by_ (bs (Vs.csL) ++ bs (Vs.csL)) = Vs.csL ++ Vs.csL by first | rfl | (simp only [Vs.by_app]; rfl))
  have p4 : (Vs.csL ++ Vs.csL).length = 64 + 64 := by simp only [List.length_append, Vs.cs_len, Vs.cs_len]
  have HF5 := Lib.hid (show by_ (bs (Vs.stampR v.time) ++ bs (Vs.implL)) = Vs.stampR v.time ++ Vs.implL by first | rfl | (simp only [Vs.by_app]; rfl))
  have p5 : (Vs.stampR v.time ++ Vs.implL).length = 12 + 32 := by simp only [List.length_append, Vs.stampR_len k6, Vs.impl_len]
  have z0 : (bs (Vs.n4 1)).size ≤ 4 := by rw [Vs.bs_size, Vs.n4_len _]; exact Nat.le_refl _
  have z1 : (bs (Vs.fldL (by_ v.name) 32)).size ≤ 32 := by rw [Vs.bs_size, Vs.fld32 hn]; exact Nat.le_refl _
  have z2 : (bs (Vs.n2 v.number)).size ≤ 2 := by rw [Vs.bs_size, Vs.n2_len _]; exact Nat.le_refl _
  have z3 : (bs (Vs.n2 v.discs)).size ≤ 2 := by rw [Vs.bs_size, Vs.n2_len _]; exact Nat.le_refl _
  have z4 : (bs (Vs.n2 3)).size ≤ 2 := by rw [Vs.bs_size, Vs.n2_len _]; exact Nat.le_refl _
  have z5 : (bs (Vs.fldL (by_ v.set) 128)).size ≤ 128 := by rw [Vs.bs_size, Vs.fld128 k1]; exact Nat.le_refl _
  have z6 : (bs (Vs.csL)).size ≤ 64 := by rw [Vs.bs_size, Vs.cs_len]; exact Nat.le_refl _
  have z7 : (bs (Vs.stampR v.time)).size ≤ 12 := by rw [Vs.bs_size, Vs.stampR_len k6]; exact Nat.le_refl _
  have z8 : (bs (Vs.implL)).size ≤ 32 := by rw [Vs.bs_size, Vs.impl_len]; exact Nat.le_refl _
  generalize bs (Vs.n4 1) = r0 at *
  generalize bs (Vs.fldL (by_ v.name) 32) = r1 at *
  generalize bs (Vs.n2 v.number) = r2 at *
  generalize bs (Vs.n2 v.discs) = r3 at *
  generalize bs (Vs.n2 3) = r4 at *
  generalize bs (Vs.fldL (by_ v.set) 128) = r5 at *
  generalize bs (Vs.csL) = r6 at *
  generalize bs (Vs.stampR v.time) = r7 at *
  generalize bs (Vs.implL) = r8 at *
  generalize Vs.n2 v.number ++ Vs.n2 v.discs ++ Vs.n2 3 ++ Vs.n2 3 ++ Vs.n4 1 ++ Vs.n4 1 = P2 at *
  generalize Vs.csL ++ Vs.csL = P4 at *
  generalize Vs.stampR v.time ++ Vs.implL = P5 at *
  generalize Vs.n4 1 = P0 at *
  generalize Vs.fldL (by_ v.name) 32 = P1 at *
  generalize Vs.fldL (by_ v.set) 128 = P3 at *
  obtain ⟨L0, hL0⟩ : ∃ L, L = ([] : List UInt8) ++ Vs.z (16 - ([] : List UInt8).length) ++ P0 := ⟨_, rfl⟩
  have l0 : L0.length = 16 + P0.length := by rw [hL0]; simp only [List.length_append, List.length_nil, Vs.z_len] <;> omega
  obtain ⟨L1, hL1⟩ : ∃ L, L = L0 ++ Vs.z (24 - L0.length) ++ P1 := ⟨_, rfl⟩
  have l1 : L1.length = 24 + P1.length := by rw [hL1]; simp only [List.length_append, Vs.z_len] <;> omega
  obtain ⟨L2, hL2⟩ : ∃ L, L = L1 ++ Vs.z (56 - L1.length) ++ P2 := ⟨_, rfl⟩
  have l2 : L2.length = 56 + P2.length := by rw [hL2]; simp only [List.length_append, Vs.z_len] <;> omega
  obtain ⟨L3, hL3⟩ : ∃ L, L = L2 ++ Vs.z (72 - L2.length) ++ P3 := ⟨_, rfl⟩
  have l3 : L3.length = 72 + P3.length := by rw [hL3]; simp only [List.length_append, Vs.z_len] <;> omega
  obtain ⟨L4, hL4⟩ : ∃ L, L = L3 ++ Vs.z (200 - L3.length) ++ P4 := ⟨_, rfl⟩
  have l4 : L4.length = 200 + P4.length := by rw [hL4]; simp only [List.length_append, Vs.z_len] <;> omega
  obtain ⟨L5, hL5⟩ : ∃ L, L = L4 ++ Vs.z (376 - L4.length) ++ P5 := ⟨_, rfl⟩
  have l5 : L5.length = 376 + P5.length := by rw [hL5]; simp only [List.length_append, Vs.z_len] <;> omega
  have HLL := Lib.hid (show Vs.fillL [(16, P0), (24, P1), (56, P2), (72, P3), (200, P4), (376, P5)] [] = L5 by simp only [hL0, hL1, hL2, hL3, hL4, hL5]; rfl)
  have HL0 := Lib.hid hL0.symm
  have HL1 := Lib.hid hL1.symm
  have HL2 := Lib.hid hL2.symm
  have HL3 := Lib.hid hL3.symm
  have HL4 := Lib.hid hL4.symm
  have HL5 := Lib.hid hL5.symm
  clear hb hI hob hvb hib hT hL0 hL1 hL2 hL3 hL4 hL5
  rw [HLL.out]
  unfold Vs.putV
  show Calls _ _ #[_, _, _] _ _
  go_enter Tryz.func66, Tryz.ntmps66
  go_wp2_with fail
  with_reducible refine (C0.out _).mono ?_
  rintro e wa0_0 ⟨rfl, hbq⟩
  have HA0_0 := Lib.hid (HS0.out.below hbq)
  clear hbq
  go_wp2_with fail
  refine (put_any ob 16 16 rfl _ [] _ HA0_0.out.img (by decide) (by simp) (by omega)).mono ?_
  rintro e wp0 ⟨rfl, hi, hbp⟩
  rw [HF0.out, HL0.out] at hi
  have HP0 := Lib.hid (HA0_0.out.put HO.out hi hbp)
  clear hi hbp
  have cvb_0 := cell_of_row _ _ 0 _ _ _ (HRvb.out _ HP0.out.bel0)
  simp only [List.getElem?_toArray, List.getElem?_cons_zero] at cvb_0
  go_wp2_with fail
  with_reducible refine (C1.out _ (HTW.out _ HP0.out.bel0)).mono ?_
  rintro e wa1_0 ⟨rfl, hbq⟩
  have HA1_0 := Lib.hid (HP0.out.below hbq)
  clear hbq cvb_0
  go_wp2_with fail
  refine (put_any ob 24 24 rfl _ L0 _ HA1_0.out.img (by decide) (by omega) (by omega)).mono ?_
  rintro e wp1 ⟨rfl, hi, hbp⟩
  rw [HF1.out, HL1.out] at hi
  have HP1 := Lib.hid (HA1_0.out.put HO.out hi hbp)
  clear hi hbp
  have cvb_5 := cell_of_row _ _ 5 _ _ _ (HRvb.out _ HP1.out.bel0)
  have cvb_6 := cell_of_row _ _ 6 _ _ _ (HRvb.out _ HP1.out.bel0)
  simp only [List.getElem?_toArray, List.getElem?_cons_zero, List.getElem?_cons_succ] at cvb_5 cvb_6
  have yvb_5 := fun x : Later wp1.heap.size wp1 => later_cell x (Nat.lt_of_lt_of_le HLvb.out HP1.out.bel0.size) cvb_5
  have yvb_6 := fun x : Later wp1.heap.size wp1 => later_cell x (Nat.lt_of_lt_of_le HLvb.out HP1.out.bel0.size) cvb_6
  go_wp2_with fail
  refine Rt.tail (C := fun w' => ∃ x : Later wp1.heap.size wp1, w' = x.to) 16 _ rfl (by kernel_rfl) (by kernel_rfl) (by kernel_rfl) rfl (by kernel_rfl) ⟨⟨wp1.drewN 1, Kit.below_drewN 1⟩, rfl⟩ ?_
  simp only [List.take_succ_cons, List.take_zero]
  repeat (any_goals (first | go_big_quiet_skip | (go_big_quiet_want; go_big_quiet_op; first | go_big_quiet_on | (apply Exists.intro; refine ⟨fun _ => ?_, ?_⟩; (first | (with_reducible refine Calls.later_of ?_ (C2.out _); exact Nat.le_refl _) | (with_reducible refine Calls.later_of ?_ (C3.out _); exact Nat.le_refl _) | (with_reducible refine Calls.later_of ?_ (C4.out _); exact Nat.le_refl _) | (with_reducible refine Calls.later_of ?_ (C0.out _); exact Nat.le_refl _)); go_big_quiet_on))))
  refine wpQuiet_nil ?_
  intro wq2 hw'
  obtain ⟨⟨wz, hbq⟩, hw''⟩ := hw'
  subst hw''
  have HQ2 := Lib.hid (HP1.out.below hbq)
  clear hbq cvb_5 cvb_6 yvb_5 yvb_6
  go_wp2_with fail
  refine (put_any ob 56 56 rfl _ L1 _ HQ2.out.img (by decide) (by omega) (by simp only [ByteArray.size_append]; omega)).mono ?_
  rintro e wp2 ⟨rfl, hi, hbp⟩
  rw [HF2.out, HL2.out] at hi
  have HP2 := Lib.hid (HQ2.out.put HO.out hi hbp)
  clear hi hbp
  have cvb_1 := cell_of_row _ _ 1 _ _ _ (HRvb.out _ HP2.out.bel0)
  simp only [List.getElem?_toArray, List.getElem?_cons_zero, List.getElem?_cons_succ] at cvb_1
  go_wp2_with fail
  with_reducible refine (C5.out _ (HTW.out _ HP2.out.bel0)).mono ?_
  rintro e wa3_0 ⟨rfl, hbq⟩
  have HA3_0 := Lib.hid (HP2.out.below hbq)
  clear hbq cvb_1
  go_wp2_with fail
  refine (put_any ob 72 72 rfl _ L2 _ HA3_0.out.img (by decide) (by omega) (by omega)).mono ?_
  rintro e wp3 ⟨rfl, hi, hbp⟩
  rw [HF3.out, HL3.out] at hi
  have HP3 := Lib.hid (HA3_0.out.put HO.out hi hbp)
  clear hi hbp
  go_wp2_with fail
  with_reducible refine (C6.out _).mono ?_
  rintro e wa4_0 ⟨rfl, hbq⟩
  have HA4_0 := Lib.hid (HP3.out.below hbq)
  clear hbq
  go_wp2_with fail
  with_reducible refine (C6.out _).mono ?_
  rintro e wa4_1 ⟨rfl, hbq⟩
  have HA4_1 := Lib.hid (HA4_0.out.below hbq)
  clear hbq
  go_wp2_with fail
  refine (put_any ob 200 200 rfl _ L3 _ HA4_1.out.img (by decide) (by omega) (by simp only [ByteArray.size_append]; omega)).mono ?_
  rintro e wp4 ⟨rfl, hi, hbp⟩
  rw [HF4.out, HL4.out] at hi
  have HP4 := Lib.hid (HA4_1.out.put HO.out hi hbp)
  clear hi hbp
  have cvb_7 := cell_of_row _ _ 7 _ _ _ (HRvb.out _ HP4.out.bel0)
  have cib_0 := cell_of_row _ _ 0 _ _ _ (HRib.out _ HP4.out.bel0)
  simp only [List.getElem?_toArray, List.getElem?_cons_zero, List.getElem?_cons_succ] at cvb_7 cib_0
  have yvb_7 := fun x : Later wp4.heap.size wp4 => later_cell x (Nat.lt_of_lt_of_le HLvb.out HP4.out.bel0.size) cvb_7
  have yib_0 := fun x : Later wp4.heap.size wp4 => later_cell x (Nat.lt_of_lt_of_le HLib.out HP4.out.bel0.size) cib_0
  go_wp2_with fail
  refine Rt.tail (C := fun w' => ∃ x : Later wp4.heap.size wp4, w' = x.to) 6 _ rfl (by kernel_rfl) (by kernel_rfl) (by kernel_rfl) rfl (by kernel_rfl) ⟨⟨wp4.drewN 1, Kit.below_drewN 1⟩, rfl⟩ ?_
  simp only [List.take_succ_cons, List.take_zero]
  repeat (any_goals (first | go_big_quiet_skip | (go_big_quiet_want; go_big_quiet_op; first | go_big_quiet_on | (apply Exists.intro; refine ⟨fun _ => ?_, ?_⟩; (first | (with_reducible refine Calls.later_of ?_ (C7.out _); exact Nat.le_refl _)); go_big_quiet_on))))
  refine wpQuiet_nil ?_
  intro wq5 hw'
  obtain ⟨⟨wz, hbq⟩, hw''⟩ := hw'
  subst hw''
  have HQ5 := Lib.hid (HP4.out.below hbq)
  clear hbq cvb_7 cib_0 yvb_7 yib_0
  go_wp2_with fail
  refine (put_any ob 376 376 rfl _ L4 _ HQ5.out.img (by decide) (by omega) (by simp only [ByteArray.size_append]; omega)).mono ?_
  rintro e wp5 ⟨rfl, hi, hbp⟩
  rw [HF5.out, HL5.out] at hi
  have HP5 := Lib.hid (HQ5.out.put HO.out hi hbp)
  clear hi hbp
  go_wp2_with fail
  go_end0
  exact ⟨rfl, HP5.out.img, HP5.out.bel⟩

set_option maxHeartbeats 12800000 in
set_option maxRecDepth 100000 in
/-- Sequence$3: the partition descriptor. -/
theorem fillPart_any (w : World) (pb ib : Nat) (p : Vs.Part) (hp : Vs.okPart p = true) (hpb : w.heap[pb]? = some (.cells (Vs.partC p) 40 (0, 0))) (hib : w.heap[ib]? = some (.cells #[.string (bs Vs.implL)] 9 (0, 0))) :
    Vs.Fills 71 #[.pointer (some ⟨pb, 0, none⟩), .pointer (some ⟨ib, 0, none⟩)] w (Vs.fillL [(16, Vs.n4 2 ++ Vs.n2 1 ++ Vs.n2 p.number ++ Vs.contL), (64, Vs.n4 (p.bcount * 2048) ++ Vs.n4 p.bstart), (184, Vs.n4 p.access ++ Vs.n4 p.start ++ Vs.n4 p.count ++ Vs.implL)] []) := by
  refine ⟨enters_of Tryz.func71 (by kernel_rfl) rfl, fun W0 ob hb hob hI => ?_⟩
  unfold Vs.partC at hpb
  obtain ⟨k1, k2, k3, k4, k5, k6, k7, k8⟩ := (Vs.okPart_iff p).1 hp
  rw [Vs.word_iff] at k3 k4 k5 k6
  clear hp
  have HO := Lib.hid hob
  have HS0 := Lib.hid (show Vs.Fst w W0 W0 ob [] from ⟨hI, hb, Below.refl _ _⟩)
  have HLpb := Lib.hid (show pb < w.heap.size from (Array.getElem?_eq_some_iff.1 hpb).1)
  have HRpb := Lib.hid (fun W (h : Below w.heap.size w W) => (h.block pb HLpb.out).trans hpb)
  have HLib := Lib.hid (show ib < w.heap.size from (Array.getElem?_eq_some_iff.1 hib).1)
  have HRib := Lib.hid (fun W (h : Below w.heap.size w W) => (h.block ib HLib.out).trans hib)
  have C0 := Lib.hid (fun W => vN4 2 (by decide) (by decide) W)
  have C1 := Lib.hid (fun W => vN2 1 (by decide) (by decide) W)
  have C2 := Lib.hid (fun W => vN2 p.number k1 (by omega) W)
  have C3 := Lib.hid (fun W => vCont W)
  have C4 := Lib.hid (fun W => vN4 (p.bcount * 2048) (by omega) (by omega) W)
  have C5 := Lib.hid (fun W => vN4 p.bstart k6.1 k6.2 W)
  have C6 := Lib.hid (fun W => vN4 p.access k3.1 k3.2 W)
  have C7 := Lib.hid (fun W => vN4 p.start k4.1 k4.2 W)
  have C8 := Lib.hid (fun W => vN4 p.count k5.1 k5.2 W)
  have HF0 := Lib.hid (show by_ (bs (Vs.n4 2) ++ bs (Vs.n2 1) ++ bs (Vs.n2 p.number) ++ bs (Vs.contL)) = Vs.n4 2 ++ Vs.n2 1 ++ Vs.n2 p.number ++ Vs.contL by first | rfl | (simp only [Vs.by_app]; rfl))
  have p0 : (Vs.n4 2 ++ Vs.n2 1 ++ Vs.n2 p.number ++ Vs.contL).length = 4 + 2 + 2 + 32 := by simp only [List.length_append, Vs.n4_len _, Vs.n2_len _, Vs.cont_len]
  have HF1 := Lib.hid (show by_ (bs (Vs.n4 (p.bcount * 2048)) ++ bs (Vs.n4 p.bstart)) = Vs.n4 (p.bcount * 2048) ++ Vs.n4 p.bstart by first | rfl | (simp only [Vs.by_app]; rfl))
  have p1 : (Vs.n4 (p.bcount * 2048) ++ Vs.n4 p.bstart).length = 4 + 4 := by simp only [List.length_append, Vs.n4_len _]
  have HF2 := Lib.hid (show by_ (bs (Vs.n4 p.access) ++ bs (Vs.n4 p.start) ++ bs (Vs.n4 p.count) ++ bs (Vs.implL)) = Vs.n4 p.access ++ Vs.n4 p.start ++ Vs.n4 p.count ++ Vs.implL by first | rfl | (simp only [Vs.by_app]; rfl))
  have p2 : (Vs.n4 p.access ++ Vs.n4 p.start ++ Vs.n4 p.count ++ Vs.implL).length = 4 + 4 + 4 + 32 := by simp only [List.length_append, Vs.n4_len _, Vs.impl_len]
  have z0 : (bs (Vs.n4 2)).size ≤ 4 := by rw [Vs.bs_size, Vs.n4_len _]; exact Nat.le_refl _
  have z1 : (bs (Vs.n2 1)).size ≤ 2 := by rw [Vs.bs_size, Vs.n2_len _]; exact Nat.le_refl _
  have z2 : (bs (Vs.n2 p.number)).size ≤ 2 := by rw [Vs.bs_size, Vs.n2_len _]; exact Nat.le_refl _
  have z3 : (bs (Vs.contL)).size ≤ 32 := by rw [Vs.bs_size, Vs.cont_len]; exact Nat.le_refl _
  have z4 : (bs (Vs.n4 (p.bcount * 2048))).size ≤ 4 := by rw [Vs.bs_size, Vs.n4_len _]; exact Nat.le_refl _
  have z5 : (bs (Vs.n4 p.bstart)).size ≤ 4 := by rw [Vs.bs_size, Vs.n4_len _]; exact Nat.le_refl _
  have z6 : (bs (Vs.n4 p.access)).size ≤ 4 := by rw [Vs.bs_size, Vs.n4_len _]; exact Nat.le_refl _
  have z7 : (bs (Vs.n4 p.start)).size ≤ 4 := by rw [Vs.bs_size, Vs.n4_len _]; exact Nat.le_refl _
  have z8 : (bs (Vs.n4 p.count)).size ≤ 4 := by rw [Vs.bs_size, Vs.n4_len _]; exact Nat.le_refl _
  have z9 : (bs (Vs.implL)).size ≤ 32 := by rw [Vs.bs_size, Vs.impl_len]; exact Nat.le_refl _
  generalize bs (Vs.n4 2) = r0 at *
  generalize bs (Vs.n2 1) = r1 at *
  generalize bs (Vs.n2 p.number) = r2 at *
  generalize bs (Vs.contL) = r3 at *
  generalize bs (Vs.n4 (p.bcount * 2048)) = r4 at *
  generalize bs (Vs.n4 p.bstart) = r5 at *
  generalize bs (Vs.n4 p.access) = r6 at *
  generalize bs (Vs.n4 p.start) = r7 at *
  generalize bs (Vs.n4 p.count) = r8 at *
  generalize bs (Vs.implL) = r9 at *
  generalize Vs.n4 2 ++ Vs.n2 1 ++ Vs.n2 p.number ++ Vs.contL = P0 at *
  generalize Vs.n4 p.access ++ Vs.n4 p.start ++ Vs.n4 p.count ++ Vs.implL = P2 at *
  generalize Vs.n4 (p.bcount * 2048) ++ Vs.n4 p.bstart = P1 at *
  obtain ⟨L0, hL0⟩ : ∃ L, L = ([] : List UInt8) ++ Vs.z (16 - ([] : List UInt8).length) ++ P0 := ⟨_, rfl⟩
  have l0 : L0.length = 16 + P0.length := by rw [hL0]; simp only [List.length_append, List.length_nil, Vs.z_len] <;> omega
  obtain ⟨L1, hL1⟩ : ∃ L, L = L0 ++ Vs.z (64 - L0.length) ++ P1 := ⟨_, rfl⟩
  have l1 : L1.length = 64 + P1.length := by rw [hL1]; simp only [List.length_append, Vs.z_len] <;> omega
  obtain ⟨L2, hL2⟩ : ∃ L, L = L1 ++ Vs.z (184 - L1.length) ++ P2 := ⟨_, rfl⟩
  have l2 : L2.length = 184 + P2.length := by rw [hL2]; simp only [List.length_append, Vs.z_len] <;> omega
  have HLL := Lib.hid (show Vs.fillL [(16, P0), (64, P1), (184, P2)] [] = L2 by simp only [hL0, hL1, hL2]; rfl)
  have HL0 := Lib.hid hL0.symm
  have HL1 := Lib.hid hL1.symm
  have HL2 := Lib.hid hL2.symm
  clear hb hI hob hpb hib hL0 hL1 hL2
  rw [HLL.out]
  unfold Vs.putV
  show Calls _ _ #[_, _, _] _ _
  go_enter Tryz.func71, Tryz.ntmps71
  have cpb_0 := cell_of_row _ _ 0 _ _ _ (HRpb.out _ HS0.out.bel0)
  simp only [List.getElem?_toArray, List.getElem?_cons_zero] at cpb_0
  have ypb_0 := fun x : Later W0.heap.size W0 => later_cell x (Nat.lt_of_lt_of_le HLpb.out HS0.out.bel0.size) cpb_0
  go_wp2_with fail
  refine Rt.tail (C := fun w' => ∃ x : Later W0.heap.size W0, w' = x.to) 10 _ rfl (by kernel_rfl) (by kernel_rfl) (by kernel_rfl) rfl (by kernel_rfl) ⟨⟨W0.drewN 1, Kit.below_drewN 1⟩, rfl⟩ ?_
  simp only [List.take_succ_cons, List.take_zero]
  repeat (any_goals (first | go_big_quiet_skip | (go_big_quiet_want; go_big_quiet_op; first | go_big_quiet_on | (apply Exists.intro; refine ⟨fun _ => ?_, ?_⟩; (first | (with_reducible refine Calls.later_of ?_ (C0.out _); exact Nat.le_refl _) | (with_reducible refine Calls.later_of ?_ (C1.out _); exact Nat.le_refl _) | (with_reducible refine Calls.later_of ?_ (C2.out _); exact Nat.le_refl _) | (with_reducible refine Calls.later_of ?_ (C3.out _); exact Nat.le_refl _)); go_big_quiet_on))))
  refine wpQuiet_nil ?_
  intro wq0 hw'
  obtain ⟨⟨wz, hbq⟩, hw''⟩ := hw'
  subst hw''
  have HQ0 := Lib.hid (HS0.out.below hbq)
  clear hbq cpb_0 ypb_0
  go_wp2_with fail
  refine (put_any ob 16 16 rfl _ [] _ HQ0.out.img (by decide) (by simp) (by simp only [ByteArray.size_append]; omega)).mono ?_
  rintro e wp0 ⟨rfl, hi, hbp⟩
  rw [HF0.out, HL0.out] at hi
  have HP0 := Lib.hid (HQ0.out.put HO.out hi hbp)
  clear hi hbp
  have cpb_4 := cell_of_row _ _ 4 _ _ _ (HRpb.out _ HP0.out.bel0)
  have cpb_5 := cell_of_row _ _ 5 _ _ _ (HRpb.out _ HP0.out.bel0)
  simp only [List.getElem?_toArray, List.getElem?_cons_zero, List.getElem?_cons_succ] at cpb_4 cpb_5
  have ypb_4 := fun x : Later wp0.heap.size wp0 => later_cell x (Nat.lt_of_lt_of_le HLpb.out HP0.out.bel0.size) cpb_4
  have ypb_5 := fun x : Later wp0.heap.size wp0 => later_cell x (Nat.lt_of_lt_of_le HLpb.out HP0.out.bel0.size) cpb_5
  go_wp2_with fail
  refine Rt.tail (C := fun w' => ∃ x : Later wp0.heap.size wp0, w' = x.to) 11 _ rfl (by kernel_rfl) (by kernel_rfl) (by kernel_rfl) rfl (by kernel_rfl) ⟨⟨wp0.drewN 1, Kit.below_drewN 1⟩, rfl⟩ ?_
  simp only [List.take_succ_cons, List.take_zero]
  repeat (any_goals (first | go_big_quiet_skip | (go_big_quiet_want; go_big_quiet_op; first | go_big_quiet_on | (apply Exists.intro; refine ⟨fun _ => ?_, ?_⟩; (first | (with_reducible refine Calls.later_of ?_ (C4.out _); exact Nat.le_refl _) | (with_reducible refine Calls.later_of ?_ (C5.out _); exact Nat.le_refl _)); go_big_quiet_on))))
  refine wpQuiet_nil ?_
  intro wq1 hw'
  obtain ⟨⟨wz, hbq⟩, hw''⟩ := hw'
  subst hw''
  have HQ1 := Lib.hid (HP0.out.below hbq)
  clear hbq cpb_4 cpb_5 ypb_4 ypb_5
  go_wp2_with fail
  refine (put_any ob 64 64 rfl _ L0 _ HQ1.out.img (by decide) (by omega) (by simp only [ByteArray.size_append]; omega)).mono ?_
  rintro e wp1 ⟨rfl, hi, hbp⟩
  rw [HF1.out, HL1.out] at hi
  have HP1 := Lib.hid (HQ1.out.put HO.out hi hbp)
  clear hi hbp
  have cpb_1 := cell_of_row _ _ 1 _ _ _ (HRpb.out _ HP1.out.bel0)
  have cpb_2 := cell_of_row _ _ 2 _ _ _ (HRpb.out _ HP1.out.bel0)
  have cpb_3 := cell_of_row _ _ 3 _ _ _ (HRpb.out _ HP1.out.bel0)
  have cib_0 := cell_of_row _ _ 0 _ _ _ (HRib.out _ HP1.out.bel0)
  simp only [List.getElem?_toArray, List.getElem?_cons_zero, List.getElem?_cons_succ] at cpb_1 cpb_2 cpb_3 cib_0
  have ypb_1 := fun x : Later wp1.heap.size wp1 => later_cell x (Nat.lt_of_lt_of_le HLpb.out HP1.out.bel0.size) cpb_1
  have ypb_2 := fun x : Later wp1.heap.size wp1 => later_cell x (Nat.lt_of_lt_of_le HLpb.out HP1.out.bel0.size) cpb_2
  have ypb_3 := fun x : Later wp1.heap.size wp1 => later_cell x (Nat.lt_of_lt_of_le HLpb.out HP1.out.bel0.size) cpb_3
  have yib_0 := fun x : Later wp1.heap.size wp1 => later_cell x (Nat.lt_of_lt_of_le HLib.out HP1.out.bel0.size) cib_0
  go_wp2_with fail
  refine Rt.tail (C := fun w' => ∃ x : Later wp1.heap.size wp1, w' = x.to) 16 _ rfl (by kernel_rfl) (by kernel_rfl) (by kernel_rfl) rfl (by kernel_rfl) ⟨⟨wp1.drewN 1, Kit.below_drewN 1⟩, rfl⟩ ?_
  simp only [List.take_succ_cons, List.take_zero]
  repeat (any_goals (first | go_big_quiet_skip | (go_big_quiet_want; go_big_quiet_op; first | go_big_quiet_on | (apply Exists.intro; refine ⟨fun _ => ?_, ?_⟩; (first | (with_reducible refine Calls.later_of ?_ (C6.out _); exact Nat.le_refl _) | (with_reducible refine Calls.later_of ?_ (C7.out _); exact Nat.le_refl _) | (with_reducible refine Calls.later_of ?_ (C8.out _); exact Nat.le_refl _)); go_big_quiet_on))))
  refine wpQuiet_nil ?_
  intro wq2 hw'
  obtain ⟨⟨wz, hbq⟩, hw''⟩ := hw'
  subst hw''
  have HQ2 := Lib.hid (HP1.out.below hbq)
  clear hbq cpb_1 cpb_2 cpb_3 cib_0 ypb_1 ypb_2 ypb_3 yib_0
  go_wp2_with fail
  refine (put_any ob 184 184 rfl _ L1 _ HQ2.out.img (by decide) (by omega) (by simp only [ByteArray.size_append]; omega)).mono ?_
  rintro e wp2 ⟨rfl, hi, hbp⟩
  rw [HF2.out, HL2.out] at hi
  have HP2 := Lib.hid (HQ2.out.put HO.out hi hbp)
  clear hi hbp
  go_wp2_with fail
  go_end0
  exact ⟨rfl, HP2.out.img, HP2.out.bel⟩

set_option maxHeartbeats 12800000 in
set_option maxRecDepth 100000 in
/-- Sequence$4: the logical volume descriptor. -/
theorem fillLog_any (w : World) (vb db ib : Nat) (d : Vs.D) (hd : Vs.okLog d = true) (s1 : d.vol.name.size ≤ 9223372036854775807) (hvb : w.heap[vb]? = some (.cells (Vs.volC d.vol) 38 (0, 0))) (hdb : w.heap[db]? = some (.cells (Vs.dC d) 46 (0, 0))) (hib : w.heap[ib]? = some (.cells #[.string (bs Vs.implL)] 9 (0, 0))) (hT : Lib.Utf8Tabs 1 2 w) :
    Vs.Fills 72 #[.pointer (some ⟨vb, 0, none⟩), .pointer (some ⟨db, 0, none⟩), .pointer (some ⟨ib, 0, none⟩)] w (Vs.fillL [(16, Vs.n4 3 ++ Vs.csL ++ Vs.fldL (by_ d.vol.name) 128 ++ Vs.n4 2048 ++ Vs.domL ++ Vs.longL d.fk d.fl d.fb d.fp ++ Vs.n4 (d.table.size : Int) ++ Vs.n4 d.maps ++ Vs.implL), (432, Vs.extL d.istart d.icount ++ by_ d.table)] []) := by
  refine ⟨enters_of Tryz.func72 (by kernel_rfl) rfl, fun W0 ob hb hob hI => ?_⟩
  unfold Vs.volC at hvb
  unfold Vs.dC at hdb
  obtain ⟨k1, k2, k3, k4, k5, k6⟩ := (Vs.okLog_iff d).1 hd
  have k7 := Vs.named_text k1
  have k8 : (d.table.size : Int) ≤ 1608 := by omega
  clear hd
  have HO := Lib.hid hob
  have HS0 := Lib.hid (show Vs.Fst w W0 W0 ob [] from ⟨hI, hb, Below.refl _ _⟩)
  have HTW := Lib.hid (fun W (h : Below w.heap.size w W) => Kit.tabs_below hT h)
  have HLvb := Lib.hid (show vb < w.heap.size from (Array.getElem?_eq_some_iff.1 hvb).1)
  have HRvb := Lib.hid (fun W (h : Below w.heap.size w W) => (h.block vb HLvb.out).trans hvb)
  have HLdb := Lib.hid (show db < w.heap.size from (Array.getElem?_eq_some_iff.1 hdb).1)
  have HRdb := Lib.hid (fun W (h : Below w.heap.size w W) => (h.block db HLdb.out).trans hdb)
  have HLib := Lib.hid (show ib < w.heap.size from (Array.getElem?_eq_some_iff.1 hib).1)
  have HRib := Lib.hid (fun W (h : Below w.heap.size w W) => (h.block ib HLib.out).trans hib)
  have C0 := Lib.hid (fun W => vN4 3 (by decide) (by decide) W)
  have C1 := Lib.hid (fun W => vCs W)
  have C2 := Lib.hid (fun W (h : Lib.Utf8Tabs 1 2 W) => vField_any d.vol.name 128 W h s1 (by decide))
  have C3 := Lib.hid (fun W => vN4 2048 (by decide) (by decide) W)
  have C4 := Lib.hid (fun W => vDom W)
  have C5 := Lib.hid (fun W => vLong_any ⟨d.fk, d.fl, d.fb, d.fp⟩ W ((Vs.formed_x ⟨d.fk, d.fl, d.fb, d.fp⟩).trans k5))
  simp only [Pm.exV] at C5
  have C6 := Lib.hid (fun W => vN4 (d.table.size : Int) (by omega) (by omega) W)
  have C7 := Lib.hid (fun W => vN4 d.maps k2 (by omega) W)
  have C9 := Lib.hid (fun W => extent_any d.istart d.icount k6 W)
  have HF0 := Lib.hid (show by_ (bs (Vs.n4 3) ++ bs (Vs.csL) ++ bs (Vs.fldL (by_ d.vol.name) 128) ++ bs (Vs.n4 2048) ++ bs (Vs.domL) ++ bs (Vs.longL d.fk d.fl d.fb d.fp) ++ bs (Vs.n4 (d.table.size : Int)) ++ bs (Vs.n4 d.maps) ++ bs (Vs.implL)) = Vs.n4 3 ++ Vs.csL ++ Vs.fldL (by_ d.vol.name) 128 ++ Vs.n4 2048 ++ Vs.domL ++ Vs.longL d.fk d.fl d.fb d.fp ++ Vs.n4 (d.table.size : Int) ++ Vs.n4 d.maps ++ Vs.implL by first | rfl | (simp only [Vs.by_app]; rfl))
  have p0 : (Vs.n4 3 ++ Vs.csL ++ Vs.fldL (by_ d.vol.name) 128 ++ Vs.n4 2048 ++ Vs.domL ++ Vs.longL d.fk d.fl d.fb d.fp ++ Vs.n4 (d.table.size : Int) ++ Vs.n4 d.maps ++ Vs.implL).length = 4 + 64 + 128 + 4 + 32 + 16 + 4 + 4 + 32 := by simp only [List.length_append, Vs.cs_len, Vs.fld128 k7, Vs.dom_len, Vs.longL_len _ _ _ _, Vs.n4_len _, Vs.impl_len]
  have HF1 := Lib.hid (show by_ (bs (Vs.extL d.istart d.icount) ++ d.table) = Vs.extL d.istart d.icount ++ by_ d.table by first | rfl | (simp only [Vs.by_app]; rfl))
  have p1 : (Vs.extL d.istart d.icount ++ by_ d.table).length = 8 + d.table.size := by simp only [List.length_append, Vs.extL_len _ _, Vs.by_len _]
  have z0 : (bs (Vs.n4 3)).size ≤ 4 := by rw [Vs.bs_size, Vs.n4_len _]; exact Nat.le_refl _
  have z1 : (bs (Vs.csL)).size ≤ 64 := by rw [Vs.bs_size, Vs.cs_len]; exact Nat.le_refl _
  have z2 : (bs (Vs.fldL (by_ d.vol.name) 128)).size ≤ 128 := by rw [Vs.bs_size, Vs.fld128 k7]; exact Nat.le_refl _
  have z3 : (bs (Vs.n4 2048)).size ≤ 4 := by rw [Vs.bs_size, Vs.n4_len _]; exact Nat.le_refl _
  have z4 : (bs (Vs.domL)).size ≤ 32 := by rw [Vs.bs_size, Vs.dom_len]; exact Nat.le_refl _
  have z5 : (bs (Vs.longL d.fk d.fl d.fb d.fp)).size ≤ 16 := by rw [Vs.bs_size, Vs.longL_len _ _ _ _]; exact Nat.le_refl _
  have z6 : (bs (Vs.n4 (d.table.size : Int))).size ≤ 4 := by rw [Vs.bs_size, Vs.n4_len _]; exact Nat.le_refl _
  have z7 : (bs (Vs.n4 d.maps)).size ≤ 4 := by rw [Vs.bs_size, Vs.n4_len _]; exact Nat.le_refl _
  have z8 : (bs (Vs.implL)).size ≤ 32 := by rw [Vs.bs_size, Vs.impl_len]; exact Nat.le_refl _
  have z9 : (bs (Vs.extL d.istart d.icount)).size ≤ 8 := by rw [Vs.bs_size, Vs.extL_len _ _]; exact Nat.le_refl _
  generalize bs (Vs.n4 3) = r0 at *
  generalize bs (Vs.csL) = r1 at *
  generalize bs (Vs.fldL (by_ d.vol.name) 128) = r2 at *
  generalize bs (Vs.n4 2048) = r3 at *
  generalize bs (Vs.domL) = r4 at *
  generalize bs (Vs.longL d.fk d.fl d.fb d.fp) = r5 at *
  generalize bs (Vs.n4 (d.table.size : Int)) = r6 at *
  generalize bs (Vs.n4 d.maps) = r7 at *
  generalize bs (Vs.implL) = r8 at *
  generalize bs (Vs.extL d.istart d.icount) = r9 at *
  generalize Vs.n4 3 ++ Vs.csL ++ Vs.fldL (by_ d.vol.name) 128 ++ Vs.n4 2048 ++ Vs.domL ++ Vs.longL d.fk d.fl d.fb d.fp ++ Vs.n4 (d.table.size : Int) ++ Vs.n4 d.maps ++ Vs.implL = P0 at *
  generalize Vs.extL d.istart d.icount ++ by_ d.table = P1 at *
  obtain ⟨L0, hL0⟩ : ∃ L, L = ([] : List UInt8) ++ Vs.z (16 - ([] : List UInt8).length) ++ P0 := ⟨_, rfl⟩
  have l0 : L0.length = 16 + P0.length := by rw [hL0]; simp only [List.length_append, List.length_nil, Vs.z_len] <;> omega
  obtain ⟨L1, hL1⟩ : ∃ L, L = L0 ++ Vs.z (432 - L0.length) ++ P1 := ⟨_, rfl⟩
  have l1 : L1.length = 432 + P1.length := by rw [hL1]; simp only [List.length_append, Vs.z_len] <;> omega
  have HLL := Lib.hid (show Vs.fillL [(16, P0), (432, P1)] [] = L1 by simp only [hL0, hL1]; rfl)
  have HL0 := Lib.hid hL0.symm
  have HL1 := Lib.hid hL1.symm
  clear hb hI hob hvb hdb hib hT hL0 hL1
  rw [HLL.out]
  unfold Vs.putV
  show Calls _ _ #[_, _, _, _] _ _
  go_enter Tryz.func72, Tryz.ntmps72
  have cvb_0 := cell_of_row _ _ 0 _ _ _ (HRvb.out _ HS0.out.bel0)
  have cdb_14 := cell_of_row _ _ 14 _ _ _ (HRdb.out _ HS0.out.bel0)
  have cdb_15 := cell_of_row _ _ 15 _ _ _ (HRdb.out _ HS0.out.bel0)
  have cdb_16 := cell_of_row _ _ 16 _ _ _ (HRdb.out _ HS0.out.bel0)
  have cdb_17 := cell_of_row _ _ 17 _ _ _ (HRdb.out _ HS0.out.bel0)
  have cdb_18 := cell_of_row _ _ 18 _ _ _ (HRdb.out _ HS0.out.bel0)
  have cdb_19 := cell_of_row _ _ 19 _ _ _ (HRdb.out _ HS0.out.bel0)
  have cib_0 := cell_of_row _ _ 0 _ _ _ (HRib.out _ HS0.out.bel0)
  simp only [List.getElem?_toArray, List.getElem?_cons_zero, List.getElem?_cons_succ] at cvb_0 cdb_14 cdb_15 cdb_16 cdb_17 cdb_18 cdb_19 cib_0
  have yvb_0 := fun x : Later W0.heap.size W0 => later_cell x (Nat.lt_of_lt_of_le HLvb.out HS0.out.bel0.size) cvb_0
  have ydb_14 := fun x : Later W0.heap.size W0 => later_cell x (Nat.lt_of_lt_of_le HLdb.out HS0.out.bel0.size) cdb_14
  have ydb_15 := fun x : Later W0.heap.size W0 => later_cell x (Nat.lt_of_lt_of_le HLdb.out HS0.out.bel0.size) cdb_15
  have ydb_16 := fun x : Later W0.heap.size W0 => later_cell x (Nat.lt_of_lt_of_le HLdb.out HS0.out.bel0.size) cdb_16
  have ydb_17 := fun x : Later W0.heap.size W0 => later_cell x (Nat.lt_of_lt_of_le HLdb.out HS0.out.bel0.size) cdb_17
  have ydb_18 := fun x : Later W0.heap.size W0 => later_cell x (Nat.lt_of_lt_of_le HLdb.out HS0.out.bel0.size) cdb_18
  have ydb_19 := fun x : Later W0.heap.size W0 => later_cell x (Nat.lt_of_lt_of_le HLdb.out HS0.out.bel0.size) cdb_19
  have yib_0 := fun x : Later W0.heap.size W0 => later_cell x (Nat.lt_of_lt_of_le HLib.out HS0.out.bel0.size) cib_0
  have HTL := Lib.hid (fun x : Later W0.heap.size W0 => HTW.out _ (HS0.out.bel0.trans (x.bel.mono HS0.out.bel0.size)))
  go_wp2_with fail
  refine Rt.tail (C := fun w' => ∃ x : Later W0.heap.size W0, w' = x.to) 27 _ rfl (by kernel_rfl) (by kernel_rfl) (by kernel_rfl) rfl (by kernel_rfl) ⟨⟨W0.drewN 1, Kit.below_drewN 1⟩, rfl⟩ ?_
  simp only [List.take_succ_cons, List.take_zero]
  repeat (any_goals (first | go_big_quiet_skip | (go_big_quiet_want; go_big_quiet_op; first | go_big_quiet_on | (apply Exists.intro; refine ⟨fun _ => ?_, ?_⟩; (first | (with_reducible refine Calls.later_of ?_ (C0.out _); exact Nat.le_refl _) | (with_reducible refine Calls.later_of ?_ (C1.out _); exact Nat.le_refl _) | (with_reducible refine Calls.later_of ?_ (C2.out _ (HTL.out _)); exact Nat.le_refl _) | (with_reducible refine Calls.later_of ?_ (C3.out _); exact Nat.le_refl _) | (with_reducible refine Calls.later_of ?_ (C4.out _); exact Nat.le_refl _) | (with_reducible refine Calls.later_of ?_ (C5.out _); exact Nat.le_refl _) | (with_reducible refine Calls.later_of ?_ (C6.out _); exact Nat.le_refl _) | (with_reducible refine Calls.later_of ?_ (C7.out _); exact Nat.le_refl _)); go_big_quiet_on))))
  refine wpQuiet_nil ?_
  intro wq0 hw'
  obtain ⟨⟨wz, hbq⟩, hw''⟩ := hw'
  subst hw''
  have HQ0 := Lib.hid (HS0.out.below hbq)
  clear hbq cvb_0 cdb_14 cdb_15 cdb_16 cdb_17 cdb_18 cdb_19 cib_0 yvb_0 ydb_14 ydb_15 ydb_16 ydb_17 ydb_18 ydb_19 yib_0 HTL
  go_wp2_with fail
  refine (put_any ob 16 16 rfl _ [] _ HQ0.out.img (by decide) (by simp) (by simp only [ByteArray.size_append]; omega)).mono ?_
  rintro e wp0 ⟨rfl, hi, hbp⟩
  rw [HF0.out, HL0.out] at hi
  have HP0 := Lib.hid (HQ0.out.put HO.out hi hbp)
  clear hi hbp
  have cdb_15 := cell_of_row _ _ 15 _ _ _ (HRdb.out _ HP0.out.bel0)
  have cdb_20 := cell_of_row _ _ 20 _ _ _ (HRdb.out _ HP0.out.bel0)
  have cdb_21 := cell_of_row _ _ 21 _ _ _ (HRdb.out _ HP0.out.bel0)
  simp only [List.getElem?_toArray, List.getElem?_cons_zero, List.getElem?_cons_succ] at cdb_15 cdb_20 cdb_21
  have ydb_15 := fun x : Later wp0.heap.size wp0 => later_cell x (Nat.lt_of_lt_of_le HLdb.out HP0.out.bel0.size) cdb_15
  have ydb_20 := fun x : Later wp0.heap.size wp0 => later_cell x (Nat.lt_of_lt_of_le HLdb.out HP0.out.bel0.size) cdb_20
  have ydb_21 := fun x : Later wp0.heap.size wp0 => later_cell x (Nat.lt_of_lt_of_le HLdb.out HP0.out.bel0.size) cdb_21
  go_wp2_with fail
  refine Rt.tail (C := fun w' => ∃ x : Later wp0.heap.size wp0, w' = x.to) 7 _ rfl (by kernel_rfl) (by kernel_rfl) (by kernel_rfl) rfl (by kernel_rfl) ⟨⟨wp0.drewN 1, Kit.below_drewN 1⟩, rfl⟩ ?_
  simp only [List.take_succ_cons, List.take_zero]
  repeat (any_goals (first | go_big_quiet_skip | (go_big_quiet_want; go_big_quiet_op; first | go_big_quiet_on | (apply Exists.intro; refine ⟨fun _ => ?_, ?_⟩; (first | (with_reducible refine Calls.later_of ?_ (C9.out _); exact Nat.le_refl _)); go_big_quiet_on))))
  refine wpQuiet_nil ?_
  intro wq1 hw'
  obtain ⟨⟨wz, hbq⟩, hw''⟩ := hw'
  subst hw''
  have HQ1 := Lib.hid (HP0.out.below hbq)
  clear hbq cdb_15 cdb_20 cdb_21 ydb_15 ydb_20 ydb_21
  go_wp2_with fail
  refine (put_any ob 432 432 rfl _ L0 _ HQ1.out.img (by decide) (by omega) (by simp only [ByteArray.size_append]; omega)).mono ?_
  rintro e wp1 ⟨rfl, hi, hbp⟩
  rw [HF1.out, HL1.out] at hi
  have HP1 := Lib.hid (HQ1.out.put HO.out hi hbp)
  clear hi hbp
  go_wp2_with fail
  go_end0
  exact ⟨rfl, HP1.out.img, HP1.out.bel⟩

set_option maxHeartbeats 12800000 in
set_option maxRecDepth 100000 in
/-- Sequence$5: the unallocated space descriptor. -/
theorem fillUnal_any (w : World)   :
    Vs.Fills 74 #[] w (Vs.fillL [(16, Vs.n4 4)] []) := by
  refine ⟨enters_of Tryz.func74 (by kernel_rfl) rfl, fun W0 ob hb hob hI => ?_⟩
  have HO := Lib.hid hob
  have HS0 := Lib.hid (show Vs.Fst w W0 W0 ob [] from ⟨hI, hb, Below.refl _ _⟩)
  have C0 := Lib.hid (fun W => vN4 4 (by decide) (by decide) W)
  have HF0 := Lib.hid (show by_ (bs (Vs.n4 4)) = Vs.n4 4 by first | rfl | (simp only [Vs.by_app]; rfl))
  have p0 : (Vs.n4 4).length = 4 := by simp only [Vs.n4_len _]
  have z0 : (bs (Vs.n4 4)).size ≤ 4 := by rw [Vs.bs_size, Vs.n4_len _]; exact Nat.le_refl _
  generalize bs (Vs.n4 4) = r0 at *
  generalize Vs.n4 4 = P0 at *
  obtain ⟨L0, hL0⟩ : ∃ L, L = ([] : List UInt8) ++ Vs.z (16 - ([] : List UInt8).length) ++ P0 := ⟨_, rfl⟩
  have l0 : L0.length = 16 + P0.length := by rw [hL0]; simp only [List.length_append, List.length_nil, Vs.z_len] <;> omega
  have HLL := Lib.hid (show Vs.fillL [(16, P0)] [] = L0 by simp only [hL0]; rfl)
  have HL0 := Lib.hid hL0.symm
  clear hb hI hob  hL0
  rw [HLL.out]
  unfold Vs.putV
  show Calls _ _ #[_] _ _
  go_enter Tryz.func74, Tryz.ntmps74
  go_wp2_with fail
  with_reducible refine (C0.out _).mono ?_
  rintro e wa0_0 ⟨rfl, hbq⟩
  have HA0_0 := Lib.hid (HS0.out.below hbq)
  clear hbq
  go_wp2_with fail
  refine (put_any ob 16 16 rfl _ [] _ HA0_0.out.img (by decide) (by simp) (by omega)).mono ?_
  rintro e wp0 ⟨rfl, hi, hbp⟩
  rw [HF0.out, HL0.out] at hi
  have HP0 := Lib.hid (HA0_0.out.put HO.out hi hbp)
  clear hi hbp
  go_wp2_with fail
  go_end0
  exact ⟨rfl, HP0.out.img, HP0.out.bel⟩

set_option maxHeartbeats 12800000 in
set_option maxRecDepth 100000 in
/-- Sequence$6: the terminating descriptor. -/
theorem fillTerm_any (w : World)   :
    Vs.Fills 75 #[] w (Vs.fillL [] []) := by
  refine ⟨enters_of Tryz.func75 (by kernel_rfl) rfl, fun W0 ob hb hob hI => ?_⟩
  have HO := Lib.hid hob
  have HS0 := Lib.hid (show Vs.Fst w W0 W0 ob [] from ⟨hI, hb, Below.refl _ _⟩)
  have HLL := Lib.hid (show Vs.fillL [] [] = [] by rfl)
  clear hb hI hob 
  rw [HLL.out]
  unfold Vs.putV
  show Calls _ _ #[_] _ _
  go_enter Tryz.func75, Tryz.ntmps75
  go_wp2_with fail
  go_end0
  exact ⟨rfl, HS0.out.img, HS0.out.bel⟩

end Go.Proofs.YthkppbimkjmbnaaGreatDoor

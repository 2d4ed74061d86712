/-
  The walks through the reference's primary, partition, logical.
-/
import Derived.Test.YthkppbimkjmbnaaGreatDoorZo
import Derived.Test.YthkppbimkjmbnaaGreatDoorZs
namespace Go.Proofs.YthkppbimkjmbnaaGreatDoor
open Go.RowKit
open Vs (bs by_)

set_option maxHeartbeats 1600000 in
set_option maxRecDepth 100000 in
/-- masterdiscref32.Charspec. -/
theorem r36Charspec_any (w : World) : Calls Tryz.prog 102 #[] w fun e w' => e = .returned (.string ⟨charspecL.toArray⟩) ∧ Below w.heap.size w w' := by
  have cZ := fun W => vZeros_any 40 (by decide) (by decide) W
  generalize hr : List.replicate (40 : Int).toNat (0 : UInt8) = r at cZ
  have hr' : r = List.replicate 40 0 := hr.symm
  have hl : r.length ≤ 40 := by rw [hr']; simp
  have HR := Lib.hid hr'
  have CZ := Lib.hid cZ
  clear cZ hr hr'
  go_enter Tryz.func102, Tryz.ntmps102
  go_wp2_with fail
  with_reducible refine (CZ.out _).mono ?_
  rintro e w3 ⟨rfl, hb3⟩
  go_wp2_with fail
  go_ret
  refine ⟨?_, hb3⟩
  rw [HR.out]
  exact congrArg (fun s => Ending.returned (.string s)) (Kit.append_mk [0, 79, 83, 84, 65, 32, 67, 111, 109, 112, 114, 101, 115, 115, 101, 100, 32, 85, 110, 105, 99, 111, 100, 101] _)


set_option maxHeartbeats 12800000 in
set_option maxRecDepth 100000 in
/-- masterdiscref36.primary. -/
theorem r36Primary_any (v : Vs.Vol) (w : World) (hv : Vs.okVol v = true) (hn : Vs.textB (by_ v.name) = true) (s1 : v.name.size ≤ 9223372036854775807) (s2 : v.set.size ≤ 9223372036854775807) :
    Calls Tryz.prog 77 #[.agg (Vs.volC v)] w fun e w' => e = .returned (.string (bs (Vs.primL v))) ∧ Below w.heap.size w w' := by
  obtain ⟨k1, k2, k3, k4, k5, k6⟩ := (Vs.okVol_iff v).1 hv
  have lf := Vs.fld32 hn
  have lg := Vs.fld128 k1
  have lt := Vs.stampR_len k6
  obtain ⟨B0, hB0⟩ : ∃ B : List UInt8, B = Vs.z 496 := ⟨_, rfl⟩
  have lB0 : B0.length = 496 := by rw [hB0]; exact Vs.z_len _
  obtain ⟨P0, hP0⟩ : ∃ P : List UInt8, P = Vs.n4 1 := ⟨_, rfl⟩
  have lP0 : P0.length = 4 := by rw [hP0]; first | assumption | rfl | exact Vs.n2_len _ | exact Vs.n4_len _ | exact Vs.longL_len _ _ _ _ | exact Vs.extL_len _ _ | exact Vs.cs_len | exact Vs.dom_len | exact Vs.impl_len | exact Vs.cont_len
  obtain ⟨B1, hB1⟩ : ∃ B : List UInt8, B = Vs.putL B0 16 P0 := ⟨_, rfl⟩
  have lB1 : B1.length = 496 := by rw [hB1, Vs.putL_len (by omega)]; exact lB0
  have K0 := Lib.hid (fun W => r36NumL_any B0 P0 16 4 16 1 4 rfl rfl hP0 B1 hB1 (by decide) (by omega) (by omega) (by decide) (by omega) (by omega) W)
  obtain ⟨P1, hP1⟩ : ∃ P : List UInt8, P = Vs.n2 v.number := ⟨_, rfl⟩
  have lP1 : P1.length = 2 := by rw [hP1]; first | assumption | rfl | exact Vs.n2_len _ | exact Vs.n4_len _ | exact Vs.longL_len _ _ _ _ | exact Vs.extL_len _ _ | exact Vs.cs_len | exact Vs.dom_len | exact Vs.impl_len | exact Vs.cont_len
  obtain ⟨B2, hB2⟩ : ∃ B : List UInt8, B = Vs.putL B1 56 P1 := ⟨_, rfl⟩
  have lB2 : B2.length = 496 := by rw [hB2, Vs.putL_len (by omega)]; exact lB1
  have K1 := Lib.hid (fun W => r36NumL_any B1 P1 56 2 56 v.number 2 rfl rfl hP1 B2 hB2 (by decide) (by omega) (by omega) (by decide) (by omega) (by omega) W)
  obtain ⟨P2, hP2⟩ : ∃ P : List UInt8, P = Vs.n2 v.discs := ⟨_, rfl⟩
  have lP2 : P2.length = 2 := by rw [hP2]; first | assumption | rfl | exact Vs.n2_len _ | exact Vs.n4_len _ | exact Vs.longL_len _ _ _ _ | exact Vs.extL_len _ _ | exact Vs.cs_len | exact Vs.dom_len | exact Vs.impl_len | exact Vs.cont_len
  obtain ⟨B3, hB3⟩ : ∃ B : List UInt8, B = Vs.putL B2 58 P2 := ⟨_, rfl⟩
  have lB3 : B3.length = 496 := by rw [hB3, Vs.putL_len (by omega)]; exact lB2
  have K2 := Lib.hid (fun W => r36NumL_any B2 P2 58 2 58 v.discs 2 rfl rfl hP2 B3 hB3 (by decide) (by omega) (by omega) (by decide) (by omega) (by omega) W)
  obtain ⟨P3, hP3⟩ : ∃ P : List UInt8, P = Vs.n2 3 := ⟨_, rfl⟩
  have lP3 : P3.length = 2 := by rw [hP3]; first | assumption | rfl | exact Vs.n2_len _ | exact Vs.n4_len _ | exact Vs.longL_len _ _ _ _ | exact Vs.extL_len _ _ | exact Vs.cs_len | exact Vs.dom_len | exact Vs.impl_len | exact Vs.cont_len
  obtain ⟨B4, hB4⟩ : ∃ B : List UInt8, B = Vs.putL B3 60 P3 := ⟨_, rfl⟩
  have lB4 : B4.length = 496 := by rw [hB4, Vs.putL_len (by omega)]; exact lB3
  have K3 := Lib.hid (fun W => r36NumL_any B3 P3 60 2 60 3 2 rfl rfl hP3 B4 hB4 (by decide) (by omega) (by omega) (by decide) (by omega) (by omega) W)
  obtain ⟨P4, hP4⟩ : ∃ P : List UInt8, P = Vs.n2 3 := ⟨_, rfl⟩
  have lP4 : P4.length = 2 := by rw [hP4]; first | assumption | rfl | exact Vs.n2_len _ | exact Vs.n4_len _ | exact Vs.longL_len _ _ _ _ | exact Vs.extL_len _ _ | exact Vs.cs_len | exact Vs.dom_len | exact Vs.impl_len | exact Vs.cont_len
  obtain ⟨B5, hB5⟩ : ∃ B : List UInt8, B = Vs.putL B4 62 P4 := ⟨_, rfl⟩
  have lB5 : B5.length = 496 := by rw [hB5, Vs.putL_len (by omega)]; exact lB4
  have K4 := Lib.hid (fun W => r36NumL_any B4 P4 62 2 62 3 2 rfl rfl hP4 B5 hB5 (by decide) (by omega) (by omega) (by decide) (by omega) (by omega) W)
  obtain ⟨P5, hP5⟩ : ∃ P : List UInt8, P = Vs.n4 1 := ⟨_, rfl⟩
  have lP5 : P5.length = 4 := by rw [hP5]; first | assumption | rfl | exact Vs.n2_len _ | exact Vs.n4_len _ | exact Vs.longL_len _ _ _ _ | exact Vs.extL_len _ _ | exact Vs.cs_len | exact Vs.dom_len | exact Vs.impl_len | exact Vs.cont_len
  obtain ⟨B6, hB6⟩ : ∃ B : List UInt8, B = Vs.putL B5 64 P5 := ⟨_, rfl⟩
  have lB6 : B6.length = 496 := by rw [hB6, Vs.putL_len (by omega)]; exact lB5
  have K5 := Lib.hid (fun W => r36NumL_any B5 P5 64 4 64 1 4 rfl rfl hP5 B6 hB6 (by decide) (by omega) (by omega) (by decide) (by omega) (by omega) W)
  obtain ⟨P6, hP6⟩ : ∃ P : List UInt8, P = Vs.n4 1 := ⟨_, rfl⟩
  have lP6 : P6.length = 4 := by rw [hP6]; first | assumption | rfl | exact Vs.n2_len _ | exact Vs.n4_len _ | exact Vs.longL_len _ _ _ _ | exact Vs.extL_len _ _ | exact Vs.cs_len | exact Vs.dom_len | exact Vs.impl_len | exact Vs.cont_len
  obtain ⟨B7, hB7⟩ : ∃ B : List UInt8, B = Vs.putL B6 68 P6 := ⟨_, rfl⟩
  have lB7 : B7.length = 496 := by rw [hB7, Vs.putL_len (by omega)]; exact lB6
  have K6 := Lib.hid (fun W => r36NumL_any B6 P6 68 4 68 1 4 rfl rfl hP6 B7 hB7 (by decide) (by omega) (by omega) (by decide) (by omega) (by omega) W)
  obtain ⟨P7, hP7⟩ : ∃ P : List UInt8, P = Vs.fldL (by_ v.name) 32 := ⟨_, rfl⟩
  have lP7 : P7.length = 32 := by rw [hP7]; first | assumption | rfl | exact Vs.n2_len _ | exact Vs.n4_len _ | exact Vs.longL_len _ _ _ _ | exact Vs.extL_len _ _ | exact Vs.cs_len | exact Vs.dom_len | exact Vs.impl_len | exact Vs.cont_len
  obtain ⟨B8, hB8⟩ : ∃ B : List UInt8, B = Vs.putL B7 24 P7 := ⟨_, rfl⟩
  have lB8 : B8.length = 496 := by rw [hB8, Vs.putL_len (by omega)]; exact lB7
  have K7 := Lib.hid (fun W => r36PutL_any B7 P7 24 24 rfl B8 hB8 (by decide) (by omega) (by omega) W)
  obtain ⟨P8, hP8⟩ : ∃ P : List UInt8, P = Vs.fldL (by_ v.set) 128 := ⟨_, rfl⟩
  have lP8 : P8.length = 128 := by rw [hP8]; first | assumption | rfl | exact Vs.n2_len _ | exact Vs.n4_len _ | exact Vs.longL_len _ _ _ _ | exact Vs.extL_len _ _ | exact Vs.cs_len | exact Vs.dom_len | exact Vs.impl_len | exact Vs.cont_len
  obtain ⟨B9, hB9⟩ : ∃ B : List UInt8, B = Vs.putL B8 72 P8 := ⟨_, rfl⟩
  have lB9 : B9.length = 496 := by rw [hB9, Vs.putL_len (by omega)]; exact lB8
  have K8 := Lib.hid (fun W => r36PutL_any B8 P8 72 72 rfl B9 hB9 (by decide) (by omega) (by omega) W)
  obtain ⟨P9, hP9⟩ : ∃ P : List UInt8, P = Vs.csL := ⟨_, rfl⟩
  have lP9 : P9.length = 64 := by rw [hP9]; first | assumption | rfl | exact Vs.n2_len _ | exact Vs.n4_len _ | exact Vs.longL_len _ _ _ _ | exact Vs.extL_len _ _ | exact Vs.cs_len | exact Vs.dom_len | exact Vs.impl_len | exact Vs.cont_len
  obtain ⟨B10, hB10⟩ : ∃ B : List UInt8, B = Vs.putL B9 200 P9 := ⟨_, rfl⟩
  have lB10 : B10.length = 496 := by rw [hB10, Vs.putL_len (by omega)]; exact lB9
  have K9 := Lib.hid (fun W => r36PutL_any B9 P9 200 200 rfl B10 hB10 (by decide) (by omega) (by omega) W)
  obtain ⟨P10, hP10⟩ : ∃ P : List UInt8, P = Vs.csL := ⟨_, rfl⟩
  have lP10 : P10.length = 64 := by rw [hP10]; first | assumption | rfl | exact Vs.n2_len _ | exact Vs.n4_len _ | exact Vs.longL_len _ _ _ _ | exact Vs.extL_len _ _ | exact Vs.cs_len | exact Vs.dom_len | exact Vs.impl_len | exact Vs.cont_len
  obtain ⟨B11, hB11⟩ : ∃ B : List UInt8, B = Vs.putL B10 264 P10 := ⟨_, rfl⟩
  have lB11 : B11.length = 496 := by rw [hB11, Vs.putL_len (by omega)]; exact lB10
  have K10 := Lib.hid (fun W => r36PutL_any B10 P10 264 264 rfl B11 hB11 (by decide) (by omega) (by omega) W)
  obtain ⟨P11, hP11⟩ : ∃ P : List UInt8, P = Vs.stampR v.time := ⟨_, rfl⟩
  have lP11 : P11.length = 12 := by rw [hP11]; first | assumption | rfl | exact Vs.n2_len _ | exact Vs.n4_len _ | exact Vs.longL_len _ _ _ _ | exact Vs.extL_len _ _ | exact Vs.cs_len | exact Vs.dom_len | exact Vs.impl_len | exact Vs.cont_len
  obtain ⟨B12, hB12⟩ : ∃ B : List UInt8, B = Vs.putL B11 376 P11 := ⟨_, rfl⟩
  have lB12 : B12.length = 496 := by rw [hB12, Vs.putL_len (by omega)]; exact lB11
  have K11 := Lib.hid (fun W => r36PutL_any B11 P11 376 376 rfl B12 hB12 (by decide) (by omega) (by omega) W)
  obtain ⟨P12, hP12⟩ : ∃ P : List UInt8, P = Vs.implL := ⟨_, rfl⟩
  have lP12 : P12.length = 32 := by rw [hP12]; first | assumption | rfl | exact Vs.n2_len _ | exact Vs.n4_len _ | exact Vs.longL_len _ _ _ _ | exact Vs.extL_len _ _ | exact Vs.cs_len | exact Vs.dom_len | exact Vs.impl_len | exact Vs.cont_len
  obtain ⟨B13, hB13⟩ : ∃ B : List UInt8, B = Vs.putL B12 388 P12 := ⟨_, rfl⟩
  have lB13 : B13.length = 496 := by rw [hB13, Vs.putL_len (by omega)]; exact lB12
  have K12 := Lib.hid (fun W => r36PutL_any B12 P12 388 388 rfl B13 hB13 (by decide) (by omega) (by omega) W)
  have HE := Lib.hid (show B13 = Vs.primL v by
    rw [hB13, hB12, hB11, hB10, hB9, hB8, hB7, hB6, hB5, hB4, hB3, hB2, hB1, hB0, hP0, hP1, hP2, hP3, hP4, hP5, hP6, hP7, hP8, hP9, hP10, hP11, hP12, ← Vs.prim_puts v lf lg lt]
    rfl)
  rw [HE.out] at K12
  have CZ := Lib.hid (fun W => vZeros_any 496 (by decide) (by decide) W)
  rw [show (⟨(List.replicate (496 : Int).toNat 0).toArray⟩ : ByteArray) = bs (Vs.z 496) from rfl] at CZ
  rw [← hB0] at CZ
  have CC := Lib.hid (fun W => (show Calls Tryz.prog 102 #[] W fun e w' => e = .returned (.string (bs Vs.csL)) ∧ Below W.heap.size W w' from r36Charspec_any W))
  have CT := Lib.hid (fun W => r36Stamp_any v.time W k6)
  have CF1 := Lib.hid (fun W => r36Field_any v.name 32 W s1 (by decide))
  have CF2 := Lib.hid (fun W => r36Field_any v.set 128 W s2 (by decide))
  have CI := Lib.hid (fun W => (show Calls Tryz.prog 105 #[.string ⟨#[42, 109, 97, 115, 116, 101, 114, 100, 105, 115, 99]⟩, .string ⟨#[]⟩] W fun e w' => e = .returned (.string (bs Vs.implL)) ∧ Below W.heap.size W w' from r36Entity_any _ _ W (by decide) (by decide)))
  clear k1 k2 k3 k4 k5 k6 lf lg lt hv hn
  clear hB0 hB1 hB2 hB3 hB4 hB5 hB6 hB7 hB8 hB9 hB10 hB11 hB12 hB13 lB0 lB1 lB2 lB3 lB4 lB5 lB6 lB7 lB8 lB9 lB10 lB11 lB12 lB13 lP0 lP1 lP2 lP3 lP4 lP5 lP6 lP7 lP8 lP9 lP10 lP11 lP12 HE
  try rw [hP0] at K0
  try rw [hP1] at K1
  try rw [hP2] at K2
  try rw [hP3] at K3
  try rw [hP4] at K4
  try rw [hP5] at K5
  try rw [hP6] at K6
  try rw [hP7] at K7
  try rw [hP8] at K8
  try rw [hP9] at K9
  try rw [hP10] at K10
  try rw [hP11] at K11
  try rw [hP12] at K12
  clear hP0 hP1 hP2 hP3 hP4 hP5 hP6 hP7 hP8 hP9 hP10 hP11 hP12 B13 P0 P1 P2 P3 P4 P5 P6 P7 P8 P9 P10 P11 P12
  generalize bs B0 = b0 at *
  generalize bs B1 = b1 at *
  generalize bs B2 = b2 at *
  generalize bs B3 = b3 at *
  generalize bs B4 = b4 at *
  generalize bs B5 = b5 at *
  generalize bs B6 = b6 at *
  generalize bs B7 = b7 at *
  generalize bs B8 = b8 at *
  generalize bs B9 = b9 at *
  generalize bs B10 = b10 at *
  generalize bs B11 = b11 at *
  generalize bs B12 = b12 at *
  generalize bs (Vs.fldL (by_ v.name) 32) = f1 at *
  generalize bs (Vs.fldL (by_ v.set) 128) = f2 at *
  generalize bs (Vs.csL) = cs at *
  generalize bs (Vs.stampR v.time) = st at *
  generalize bs (Vs.implL) = im at *
  generalize bs (Vs.primL v) = bf at *
  have HBc := Lib.hid ((Below.refl w.heap.size w).alloc (Nat.le_refl _) (.cells (Vs.volC v) 38))
  have HNc := Lib.hid (heap_alloc_new w (.cells (Vs.volC v) 38))
  obtain ⟨Z, hZ⟩ : ∃ Z, Z = Vs.volC v := ⟨_, rfl⟩
  rw [← hZ]
  rw [← hZ] at HBc HNc
  have HZ := Lib.hid hZ
  clear hZ
  go_enter Tryz.func77, Tryz.ntmps77
  go_upto_region 1 with fail
  generalize w.alloc (.cells Z 38) = wx at *
  rw [HZ.out] at HNc
  clear HZ
  go_upto_region 2 with (first | (with_reducible refine (CZ.out _).mono ?_; rintro e wx ⟨rfl, hbq⟩; have HBc := Lib.hid (HBc.out.trans (hbq.mono HBc.out.size)); have HNc := Lib.hid ((hbq.block _ (Array.getElem?_eq_some_iff.1 HNc.out).1).trans HNc.out); clear hbq))
  have c5 := (cell_of_row _ _ 5 _ _ _ HNc.out).trans (show (Vs.volC v)[5]? = some (.int .i64 v.number) from rfl)
  have c6 := (cell_of_row _ _ 6 _ _ _ HNc.out).trans (show (Vs.volC v)[6]? = some (.int .i64 v.discs) from rfl)
  have hlt := (Array.getElem?_eq_some_iff.1 HNc.out).1
  have y5 := fun x : Later wx.heap.size wx => later_cell x hlt c5
  have y6 := fun x : Later wx.heap.size wx => later_cell x hlt c6
  go_wp2_with fail
  refine wp_region_later wx.heap.size (by kernel_rfl) (by kernel_rfl) ?_
  repeat (any_goals (first | go_big_quiet_skip | (go_big_quiet_want; go_big_quiet_op; first | go_big_quiet_on | (apply Exists.intro; refine ⟨fun _ => ?_, ?_⟩; (first | (with_reducible refine Calls.later_of ?_ (K0.out _); exact Nat.le_refl _) | (with_reducible refine Calls.later_of ?_ (K1.out _); exact Nat.le_refl _) | (with_reducible refine Calls.later_of ?_ (K2.out _); exact Nat.le_refl _)); go_big_quiet_on))))
  refine wpQuiet_nil ?_
  intro wy hw'
  obtain ⟨⟨wz, hbq⟩, hw''⟩ := hw'
  subst hw''
  have HBc := Lib.hid (HBc.out.trans (hbq.mono HBc.out.size))
  have HNc := Lib.hid ((hbq.block _ hlt).trans HNc.out)
  clear hbq hlt c5 y5 c6 y6
  generalize wy = wx at *
  go_upto_region 4 with (first | (with_reducible refine (K3.out _).mono ?_; rintro e wx ⟨rfl, hbq⟩; have HBc := Lib.hid (HBc.out.trans (hbq.mono HBc.out.size)); have HNc := Lib.hid ((hbq.block _ (Array.getElem?_eq_some_iff.1 HNc.out).1).trans HNc.out); clear hbq) | (with_reducible refine (K4.out _).mono ?_; rintro e wx ⟨rfl, hbq⟩; have HBc := Lib.hid (HBc.out.trans (hbq.mono HBc.out.size)); have HNc := Lib.hid ((hbq.block _ (Array.getElem?_eq_some_iff.1 HNc.out).1).trans HNc.out); clear hbq) | (with_reducible refine (K5.out _).mono ?_; rintro e wx ⟨rfl, hbq⟩; have HBc := Lib.hid (HBc.out.trans (hbq.mono HBc.out.size)); have HNc := Lib.hid ((hbq.block _ (Array.getElem?_eq_some_iff.1 HNc.out).1).trans HNc.out); clear hbq) | (with_reducible refine (K6.out _).mono ?_; rintro e wx ⟨rfl, hbq⟩; have HBc := Lib.hid (HBc.out.trans (hbq.mono HBc.out.size)); have HNc := Lib.hid ((hbq.block _ (Array.getElem?_eq_some_iff.1 HNc.out).1).trans HNc.out); clear hbq))
  have c0 := (cell_of_row _ _ 0 _ _ _ HNc.out).trans (show (Vs.volC v)[0]? = some (.string v.name) from rfl)
  have c1 := (cell_of_row _ _ 1 _ _ _ HNc.out).trans (show (Vs.volC v)[1]? = some (.string v.set) from rfl)
  have hlt := (Array.getElem?_eq_some_iff.1 HNc.out).1
  have y0 := fun x : Later wx.heap.size wx => later_cell x hlt c0
  have y1 := fun x : Later wx.heap.size wx => later_cell x hlt c1
  go_wp2_with fail
  refine wp_region_later wx.heap.size (by kernel_rfl) (by kernel_rfl) ?_
  repeat (any_goals (first | go_big_quiet_skip | (go_big_quiet_want; go_big_quiet_op; first | go_big_quiet_on | (apply Exists.intro; refine ⟨fun _ => ?_, ?_⟩; (first | (with_reducible refine Calls.later_of ?_ (CF1.out _); exact Nat.le_refl _) | (with_reducible refine Calls.later_of ?_ (CF2.out _); exact Nat.le_refl _) | (with_reducible refine Calls.later_of ?_ (K7.out _); exact Nat.le_refl _) | (with_reducible refine Calls.later_of ?_ (K8.out _); exact Nat.le_refl _)); go_big_quiet_on))))
  refine wpQuiet_nil ?_
  intro wy hw'
  obtain ⟨⟨wz, hbq⟩, hw''⟩ := hw'
  subst hw''
  have HBc := Lib.hid (HBc.out.trans (hbq.mono HBc.out.size))
  have HNc := Lib.hid ((hbq.block _ hlt).trans HNc.out)
  clear hbq hlt c0 y0 c1 y1
  generalize wy = wx at *
  go_upto_region 6 with (first | (with_reducible refine (CC.out _).mono ?_; rintro e wx ⟨rfl, hbq⟩; have HBc := Lib.hid (HBc.out.trans (hbq.mono HBc.out.size)); have HNc := Lib.hid ((hbq.block _ (Array.getElem?_eq_some_iff.1 HNc.out).1).trans HNc.out); clear hbq) | (with_reducible refine (K9.out _).mono ?_; rintro e wx ⟨rfl, hbq⟩; have HBc := Lib.hid (HBc.out.trans (hbq.mono HBc.out.size)); have HNc := Lib.hid ((hbq.block _ (Array.getElem?_eq_some_iff.1 HNc.out).1).trans HNc.out); clear hbq) | (with_reducible refine (K10.out _).mono ?_; rintro e wx ⟨rfl, hbq⟩; have HBc := Lib.hid (HBc.out.trans (hbq.mono HBc.out.size)); have HNc := Lib.hid ((hbq.block _ (Array.getElem?_eq_some_iff.1 HNc.out).1).trans HNc.out); clear hbq))
  have c7 := (cell_of_row _ _ 7 _ _ _ HNc.out).trans (show (Vs.volC v)[7]? = some (.int .i64 v.time) from rfl)
  go_wp2_with (first | (with_reducible refine (CT.out _).mono ?_; rintro e wx ⟨rfl, hbq⟩; have HBc := Lib.hid (HBc.out.trans (hbq.mono HBc.out.size)); have HNc := Lib.hid ((hbq.block _ (Array.getElem?_eq_some_iff.1 HNc.out).1).trans HNc.out); clear hbq) | (with_reducible refine (K11.out _).mono ?_; rintro e wx ⟨rfl, hbq⟩; have HBc := Lib.hid (HBc.out.trans (hbq.mono HBc.out.size)); have HNc := Lib.hid ((hbq.block _ (Array.getElem?_eq_some_iff.1 HNc.out).1).trans HNc.out); clear hbq) | (with_reducible refine (CI.out _).mono ?_; rintro e wx ⟨rfl, hbq⟩; have HBc := Lib.hid (HBc.out.trans (hbq.mono HBc.out.size)); have HNc := Lib.hid ((hbq.block _ (Array.getElem?_eq_some_iff.1 HNc.out).1).trans HNc.out); clear hbq) | (with_reducible refine (K12.out _).mono ?_; rintro e wx ⟨rfl, hbq⟩; have HBc := Lib.hid (HBc.out.trans (hbq.mono HBc.out.size)); have HNc := Lib.hid ((hbq.block _ (Array.getElem?_eq_some_iff.1 HNc.out).1).trans HNc.out); clear hbq))
  clear c7
  go_wp2_with fail
  go_ret
  exact ⟨rfl, HBc.out⟩

set_option maxHeartbeats 12800000 in
set_option maxRecDepth 100000 in
/-- masterdiscref36.partition. -/
theorem r36Partition_any (p : Vs.Part) (w : World) (hp : Vs.okPart p = true) :
    Calls Tryz.prog 78 #[.agg (Vs.partC p)] w fun e w' => e = .returned (.string (bs (Vs.partL p))) ∧ Below w.heap.size w w' := by
  obtain ⟨k1, k2, k3, k4, k5, k6, k7, k8⟩ := (Vs.okPart_iff p).1 hp
  obtain ⟨k31, k32⟩ := (Vs.word_iff _).1 k3
  obtain ⟨k41, k42⟩ := (Vs.word_iff _).1 k4
  obtain ⟨k51, k52⟩ := (Vs.word_iff _).1 k5
  obtain ⟨k61, k62⟩ := (Vs.word_iff _).1 k6
  obtain ⟨B0, hB0⟩ : ∃ B : List UInt8, B = Vs.z 496 := ⟨_, rfl⟩
  have lB0 : B0.length = 496 := by rw [hB0]; exact Vs.z_len _
  obtain ⟨P0, hP0⟩ : ∃ P : List UInt8, P = Vs.n4 2 := ⟨_, rfl⟩
  have lP0 : P0.length = 4 := by rw [hP0]; first | assumption | rfl | exact Vs.n2_len _ | exact Vs.n4_len _ | exact Vs.longL_len _ _ _ _ | exact Vs.extL_len _ _ | exact Vs.cs_len | exact Vs.dom_len | exact Vs.impl_len | exact Vs.cont_len
  obtain ⟨B1, hB1⟩ : ∃ B : List UInt8, B = Vs.putL B0 16 P0 := ⟨_, rfl⟩
  have lB1 : B1.length = 496 := by rw [hB1, Vs.putL_len (by omega)]; exact lB0
  have K0 := Lib.hid (fun W => r36NumL_any B0 P0 16 4 16 2 4 rfl rfl hP0 B1 hB1 (by decide) (by omega) (by omega) (by decide) (by omega) (by omega) W)
  obtain ⟨P1, hP1⟩ : ∃ P : List UInt8, P = Vs.n2 1 := ⟨_, rfl⟩
  have lP1 : P1.length = 2 := by rw [hP1]; first | assumption | rfl | exact Vs.n2_len _ | exact Vs.n4_len _ | exact Vs.longL_len _ _ _ _ | exact Vs.extL_len _ _ | exact Vs.cs_len | exact Vs.dom_len | exact Vs.impl_len | exact Vs.cont_len
  obtain ⟨B2, hB2⟩ : ∃ B : List UInt8, B = Vs.putL B1 20 P1 := ⟨_, rfl⟩
  have lB2 : B2.length = 496 := by rw [hB2, Vs.putL_len (by omega)]; exact lB1
  have K1 := Lib.hid (fun W => r36NumL_any B1 P1 20 2 20 1 2 rfl rfl hP1 B2 hB2 (by decide) (by omega) (by omega) (by decide) (by omega) (by omega) W)
  obtain ⟨P2, hP2⟩ : ∃ P : List UInt8, P = Vs.n2 p.number := ⟨_, rfl⟩
  have lP2 : P2.length = 2 := by rw [hP2]; first | assumption | rfl | exact Vs.n2_len _ | exact Vs.n4_len _ | exact Vs.longL_len _ _ _ _ | exact Vs.extL_len _ _ | exact Vs.cs_len | exact Vs.dom_len | exact Vs.impl_len | exact Vs.cont_len
  obtain ⟨B3, hB3⟩ : ∃ B : List UInt8, B = Vs.putL B2 22 P2 := ⟨_, rfl⟩
  have lB3 : B3.length = 496 := by rw [hB3, Vs.putL_len (by omega)]; exact lB2
  have K2 := Lib.hid (fun W => r36NumL_any B2 P2 22 2 22 p.number 2 rfl rfl hP2 B3 hB3 (by decide) (by omega) (by omega) (by decide) (by omega) (by omega) W)
  obtain ⟨P3, hP3⟩ : ∃ P : List UInt8, P = Vs.contL := ⟨_, rfl⟩
  have lP3 : P3.length = 32 := by rw [hP3]; first | assumption | rfl | exact Vs.n2_len _ | exact Vs.n4_len _ | exact Vs.longL_len _ _ _ _ | exact Vs.extL_len _ _ | exact Vs.cs_len | exact Vs.dom_len | exact Vs.impl_len | exact Vs.cont_len
  obtain ⟨B4, hB4⟩ : ∃ B : List UInt8, B = Vs.putL B3 24 P3 := ⟨_, rfl⟩
  have lB4 : B4.length = 496 := by rw [hB4, Vs.putL_len (by omega)]; exact lB3
  have K3 := Lib.hid (fun W => r36PutL_any B3 P3 24 24 rfl B4 hB4 (by decide) (by omega) (by omega) W)
  obtain ⟨P4, hP4⟩ : ∃ P : List UInt8, P = Vs.n4 (p.bcount * 2048) := ⟨_, rfl⟩
  have lP4 : P4.length = 4 := by rw [hP4]; first | assumption | rfl | exact Vs.n2_len _ | exact Vs.n4_len _ | exact Vs.longL_len _ _ _ _ | exact Vs.extL_len _ _ | exact Vs.cs_len | exact Vs.dom_len | exact Vs.impl_len | exact Vs.cont_len
  obtain ⟨B5, hB5⟩ : ∃ B : List UInt8, B = Vs.putL B4 64 P4 := ⟨_, rfl⟩
  have lB5 : B5.length = 496 := by rw [hB5, Vs.putL_len (by omega)]; exact lB4
  have K4 := Lib.hid (fun W => r36NumL_any B4 P4 64 4 64 (p.bcount * 2048) 4 rfl rfl hP4 B5 hB5 (by decide) (by omega) (by omega) (by decide) (by omega) (by omega) W)
  obtain ⟨P5, hP5⟩ : ∃ P : List UInt8, P = Vs.n4 p.bstart := ⟨_, rfl⟩
  have lP5 : P5.length = 4 := by rw [hP5]; first | assumption | rfl | exact Vs.n2_len _ | exact Vs.n4_len _ | exact Vs.longL_len _ _ _ _ | exact Vs.extL_len _ _ | exact Vs.cs_len | exact Vs.dom_len | exact Vs.impl_len | exact Vs.cont_len
  obtain ⟨B6, hB6⟩ : ∃ B : List UInt8, B = Vs.putL B5 68 P5 := ⟨_, rfl⟩
  have lB6 : B6.length = 496 := by rw [hB6, Vs.putL_len (by omega)]; exact lB5
  have K5 := Lib.hid (fun W => r36NumL_any B5 P5 68 4 68 p.bstart 4 rfl rfl hP5 B6 hB6 (by decide) (by omega) (by omega) (by decide) (by omega) (by omega) W)
  obtain ⟨P6, hP6⟩ : ∃ P : List UInt8, P = Vs.n4 p.access := ⟨_, rfl⟩
  have lP6 : P6.length = 4 := by rw [hP6]; first | assumption | rfl | exact Vs.n2_len _ | exact Vs.n4_len _ | exact Vs.longL_len _ _ _ _ | exact Vs.extL_len _ _ | exact Vs.cs_len | exact Vs.dom_len | exact Vs.impl_len | exact Vs.cont_len
  obtain ⟨B7, hB7⟩ : ∃ B : List UInt8, B = Vs.putL B6 184 P6 := ⟨_, rfl⟩
  have lB7 : B7.length = 496 := by rw [hB7, Vs.putL_len (by omega)]; exact lB6
  have K6 := Lib.hid (fun W => r36NumL_any B6 P6 184 4 184 p.access 4 rfl rfl hP6 B7 hB7 (by decide) (by omega) (by omega) (by decide) (by omega) (by omega) W)
  obtain ⟨P7, hP7⟩ : ∃ P : List UInt8, P = Vs.n4 p.start := ⟨_, rfl⟩
  have lP7 : P7.length = 4 := by rw [hP7]; first | assumption | rfl | exact Vs.n2_len _ | exact Vs.n4_len _ | exact Vs.longL_len _ _ _ _ | exact Vs.extL_len _ _ | exact Vs.cs_len | exact Vs.dom_len | exact Vs.impl_len | exact Vs.cont_len
  obtain ⟨B8, hB8⟩ : ∃ B : List UInt8, B = Vs.putL B7 188 P7 := ⟨_, rfl⟩
  have lB8 : B8.length = 496 := by rw [hB8, Vs.putL_len (by omega)]; exact lB7
  have K7 := Lib.hid (fun W => r36NumL_any B7 P7 188 4 188 p.start 4 rfl rfl hP7 B8 hB8 (by decide) (by omega) (by omega) (by decide) (by omega) (by omega) W)
  obtain ⟨P8, hP8⟩ : ∃ P : List UInt8, P = Vs.n4 p.count := ⟨_, rfl⟩
  have lP8 : P8.length = 4 := by rw [hP8]; first | assumption | rfl | exact Vs.n2_len _ | exact Vs.n4_len _ | exact Vs.longL_len _ _ _ _ | exact Vs.extL_len _ _ | exact Vs.cs_len | exact Vs.dom_len | exact Vs.impl_len | exact Vs.cont_len
  obtain ⟨B9, hB9⟩ : ∃ B : List UInt8, B = Vs.putL B8 192 P8 := ⟨_, rfl⟩
  have lB9 : B9.length = 496 := by rw [hB9, Vs.putL_len (by omega)]; exact lB8
  have K8 := Lib.hid (fun W => r36NumL_any B8 P8 192 4 192 p.count 4 rfl rfl hP8 B9 hB9 (by decide) (by omega) (by omega) (by decide) (by omega) (by omega) W)
  obtain ⟨P9, hP9⟩ : ∃ P : List UInt8, P = Vs.implL := ⟨_, rfl⟩
  have lP9 : P9.length = 32 := by rw [hP9]; first | assumption | rfl | exact Vs.n2_len _ | exact Vs.n4_len _ | exact Vs.longL_len _ _ _ _ | exact Vs.extL_len _ _ | exact Vs.cs_len | exact Vs.dom_len | exact Vs.impl_len | exact Vs.cont_len
  obtain ⟨B10, hB10⟩ : ∃ B : List UInt8, B = Vs.putL B9 196 P9 := ⟨_, rfl⟩
  have lB10 : B10.length = 496 := by rw [hB10, Vs.putL_len (by omega)]; exact lB9
  have K9 := Lib.hid (fun W => r36PutL_any B9 P9 196 196 rfl B10 hB10 (by decide) (by omega) (by omega) W)
  have HE := Lib.hid (show B10 = Vs.partL p by
    rw [hB10, hB9, hB8, hB7, hB6, hB5, hB4, hB3, hB2, hB1, hB0, hP0, hP1, hP2, hP3, hP4, hP5, hP6, hP7, hP8, hP9, ← Vs.part_puts p]
    rfl)
  rw [HE.out] at K9
  have CZ := Lib.hid (fun W => vZeros_any 496 (by decide) (by decide) W)
  rw [show (⟨(List.replicate (496 : Int).toNat 0).toArray⟩ : ByteArray) = bs (Vs.z 496) from rfl] at CZ
  rw [← hB0] at CZ
  have CI := Lib.hid (fun W => (show Calls Tryz.prog 105 #[.string ⟨#[42, 109, 97, 115, 116, 101, 114, 100, 105, 115, 99]⟩, .string ⟨#[]⟩] W fun e w' => e = .returned (.string (bs Vs.implL)) ∧ Below W.heap.size W w' from r36Entity_any _ _ W (by decide) (by decide)))
  have CO := Lib.hid (fun W => (show Calls Tryz.prog 105 #[.string ⟨#[43, 78, 83, 82, 48, 51]⟩, .string ⟨#[]⟩] W fun e w' => e = .returned (.string (bs Vs.contL)) ∧ Below W.heap.size W w' from r36Entity_any _ _ W (by decide) (by decide)))
  have hwr : IntKind.i64.wrap (p.bcount * 2048) = p.bcount * 2048 := IntWalk.i64_in _ (by omega)
  clear k1 k2 k3 k4 k5 k6 k31 k32 k41 k42 k51 k52 k61 k62 hp
  clear hB0 hB1 hB2 hB3 hB4 hB5 hB6 hB7 hB8 hB9 hB10 lB0 lB1 lB2 lB3 lB4 lB5 lB6 lB7 lB8 lB9 lB10 lP0 lP1 lP2 lP3 lP4 lP5 lP6 lP7 lP8 lP9 HE
  try rw [hP0] at K0
  try rw [hP1] at K1
  try rw [hP2] at K2
  try rw [hP3] at K3
  try rw [hP4] at K4
  try rw [hP5] at K5
  try rw [hP6] at K6
  try rw [hP7] at K7
  try rw [hP8] at K8
  try rw [hP9] at K9
  clear hP0 hP1 hP2 hP3 hP4 hP5 hP6 hP7 hP8 hP9 B10 P0 P1 P2 P3 P4 P5 P6 P7 P8 P9
  generalize bs B0 = b0 at *
  generalize bs B1 = b1 at *
  generalize bs B2 = b2 at *
  generalize bs B3 = b3 at *
  generalize bs B4 = b4 at *
  generalize bs B5 = b5 at *
  generalize bs B6 = b6 at *
  generalize bs B7 = b7 at *
  generalize bs B8 = b8 at *
  generalize bs B9 = b9 at *
  generalize bs (Vs.contL) = co at *
  generalize bs (Vs.implL) = im at *
  generalize bs (Vs.partL p) = bf at *
  have HBc := Lib.hid ((Below.refl w.heap.size w).alloc (Nat.le_refl _) (.cells (Vs.partC p) 40))
  have HNc := Lib.hid (heap_alloc_new w (.cells (Vs.partC p) 40))
  obtain ⟨Z, hZ⟩ : ∃ Z, Z = Vs.partC p := ⟨_, rfl⟩
  rw [← hZ]
  rw [← hZ] at HBc HNc
  have HZ := Lib.hid hZ
  clear hZ
  go_enter Tryz.func78, Tryz.ntmps78
  go_upto_region 1 with fail
  generalize w.alloc (.cells Z 40) = wx at *
  rw [HZ.out] at HNc
  clear HZ
  go_upto_region 2 with (first | (with_reducible refine (CZ.out _).mono ?_; rintro e wx ⟨rfl, hbq⟩; have HBc := Lib.hid (HBc.out.trans (hbq.mono HBc.out.size)); have HNc := Lib.hid ((hbq.block _ (Array.getElem?_eq_some_iff.1 HNc.out).1).trans HNc.out); clear hbq))
  have c0 := (cell_of_row _ _ 0 _ _ _ HNc.out).trans (show (Vs.partC p)[0]? = some (.int .i64 p.number) from rfl)
  have hlt := (Array.getElem?_eq_some_iff.1 HNc.out).1
  have y0 := fun x : Later wx.heap.size wx => later_cell x hlt c0
  go_wp2_with fail
  refine wp_region_later wx.heap.size (by kernel_rfl) (by kernel_rfl) ?_
  repeat (any_goals (first | go_big_quiet_skip | (go_big_quiet_want; go_big_quiet_op; first | go_big_quiet_on | (apply Exists.intro; refine ⟨fun _ => ?_, ?_⟩; (first | (with_reducible refine Calls.later_of ?_ (K0.out _); exact Nat.le_refl _) | (with_reducible refine Calls.later_of ?_ (K1.out _); exact Nat.le_refl _) | (with_reducible refine Calls.later_of ?_ (K2.out _); exact Nat.le_refl _)); go_big_quiet_on))))
  refine wpQuiet_nil ?_
  intro wy hw'
  obtain ⟨⟨wz, hbq⟩, hw''⟩ := hw'
  subst hw''
  have HBc := Lib.hid (HBc.out.trans (hbq.mono HBc.out.size))
  have HNc := Lib.hid ((hbq.block _ hlt).trans HNc.out)
  clear hbq hlt c0 y0
  generalize wy = wx at *
  go_upto_region 4 with (first | (with_reducible refine (CO.out _).mono ?_; rintro e wx ⟨rfl, hbq⟩; have HBc := Lib.hid (HBc.out.trans (hbq.mono HBc.out.size)); have HNc := Lib.hid ((hbq.block _ (Array.getElem?_eq_some_iff.1 HNc.out).1).trans HNc.out); clear hbq) | (with_reducible refine (K3.out _).mono ?_; rintro e wx ⟨rfl, hbq⟩; have HBc := Lib.hid (HBc.out.trans (hbq.mono HBc.out.size)); have HNc := Lib.hid ((hbq.block _ (Array.getElem?_eq_some_iff.1 HNc.out).1).trans HNc.out); clear hbq))
  have c4 := (cell_of_row _ _ 4 _ _ _ HNc.out).trans (show (Vs.partC p)[4]? = some (.int .i64 p.bstart) from rfl)
  have c5 := (cell_of_row _ _ 5 _ _ _ HNc.out).trans (show (Vs.partC p)[5]? = some (.int .i64 p.bcount) from rfl)
  have hlt := (Array.getElem?_eq_some_iff.1 HNc.out).1
  have y4 := fun x : Later wx.heap.size wx => later_cell x hlt c4
  have y5 := fun x : Later wx.heap.size wx => later_cell x hlt c5
  go_wp2_with fail
  refine wp_region_later wx.heap.size (by kernel_rfl) (by kernel_rfl) ?_
  repeat (any_goals (first | go_big_quiet_skip | (go_big_quiet_want; go_big_quiet_op; first | go_big_quiet_on | (apply Exists.intro; refine ⟨fun _ => ?_, ?_⟩; (first | (with_reducible refine Calls.later_of ?_ (K4.out _); exact Nat.le_refl _) | (with_reducible refine Calls.later_of ?_ (K5.out _); exact Nat.le_refl _)); go_big_quiet_on))))
  refine wpQuiet_nil ?_
  intro wy hw'
  obtain ⟨⟨wz, hbq⟩, hw''⟩ := hw'
  subst hw''
  have HBc := Lib.hid (HBc.out.trans (hbq.mono HBc.out.size))
  have HNc := Lib.hid ((hbq.block _ hlt).trans HNc.out)
  clear hbq hlt c4 y4 c5 y5
  generalize wy = wx at *
  have c1 := (cell_of_row _ _ 1 _ _ _ HNc.out).trans (show (Vs.partC p)[1]? = some (.int .i64 p.access) from rfl)
  have c2 := (cell_of_row _ _ 2 _ _ _ HNc.out).trans (show (Vs.partC p)[2]? = some (.int .i64 p.start) from rfl)
  have c3 := (cell_of_row _ _ 3 _ _ _ HNc.out).trans (show (Vs.partC p)[3]? = some (.int .i64 p.count) from rfl)
  have hlt := (Array.getElem?_eq_some_iff.1 HNc.out).1
  have y1 := fun x : Later wx.heap.size wx => later_cell x hlt c1
  have y2 := fun x : Later wx.heap.size wx => later_cell x hlt c2
  have y3 := fun x : Later wx.heap.size wx => later_cell x hlt c3
  go_wp2_with fail
  refine wp_region_later wx.heap.size (by kernel_rfl) (by kernel_rfl) ?_
  repeat (any_goals (first | go_big_quiet_skip | (go_big_quiet_want; go_big_quiet_op; first | go_big_quiet_on | (apply Exists.intro; refine ⟨fun _ => ?_, ?_⟩; (first | (with_reducible refine Calls.later_of ?_ (K6.out _); exact Nat.le_refl _) | (with_reducible refine Calls.later_of ?_ (K7.out _); exact Nat.le_refl _) | (with_reducible refine Calls.later_of ?_ (K8.out _); exact Nat.le_refl _)); go_big_quiet_on))))
  refine wpQuiet_nil ?_
  intro wy hw'
  obtain ⟨⟨wz, hbq⟩, hw''⟩ := hw'
  subst hw''
  have HBc := Lib.hid (HBc.out.trans (hbq.mono HBc.out.size))
  have HNc := Lib.hid ((hbq.block _ hlt).trans HNc.out)
  clear hbq hlt c1 y1 c2 y2 c3 y3
  generalize wy = wx at *
  go_wp2_with (first | (with_reducible refine (CI.out _).mono ?_; rintro e wx ⟨rfl, hbq⟩; have HBc := Lib.hid (HBc.out.trans (hbq.mono HBc.out.size)); have HNc := Lib.hid ((hbq.block _ (Array.getElem?_eq_some_iff.1 HNc.out).1).trans HNc.out); clear hbq) | (with_reducible refine (K9.out _).mono ?_; rintro e wx ⟨rfl, hbq⟩; have HBc := Lib.hid (HBc.out.trans (hbq.mono HBc.out.size)); have HNc := Lib.hid ((hbq.block _ (Array.getElem?_eq_some_iff.1 HNc.out).1).trans HNc.out); clear hbq))
  go_wp2_with fail
  go_ret
  exact ⟨rfl, HBc.out⟩

set_option maxHeartbeats 12800000 in
set_option maxRecDepth 100000 in
/-- masterdiscref36.logical. -/
theorem r36Logical_any (d : Vs.D) (w : World) (hd : Vs.okLog d = true) (s1 : d.vol.name.size ≤ 9223372036854775807) :
    Calls Tryz.prog 79 #[.agg (Vs.dC d)] w fun e w' => e = .returned (.string (bs (Vs.logL d))) ∧ Below w.heap.size w w' := by
  obtain ⟨k1, k2, k3, k4, k5, k6⟩ := (Vs.okLog_iff d).1 hd
  have lf := Vs.fld128 (Vs.named_text k1)
  have htb := Vs.by_len d.table
  obtain ⟨B0, hB0⟩ : ∃ B : List UInt8, B = Vs.z 424 ++ by_ d.table := ⟨_, rfl⟩
  have lB0 : B0.length = 424 + d.table.size := by rw [hB0]; rw [List.length_append, Vs.z_len, htb]
  obtain ⟨P0, hP0⟩ : ∃ P : List UInt8, P = Vs.n4 3 := ⟨_, rfl⟩
  have lP0 : P0.length = 4 := by rw [hP0]; first | assumption | rfl | exact Vs.n2_len _ | exact Vs.n4_len _ | exact Vs.longL_len _ _ _ _ | exact Vs.extL_len _ _ | exact Vs.cs_len | exact Vs.dom_len | exact Vs.impl_len | exact Vs.cont_len
  obtain ⟨B1, hB1⟩ : ∃ B : List UInt8, B = Vs.putL B0 16 P0 := ⟨_, rfl⟩
  have lB1 : B1.length = 424 + d.table.size := by rw [hB1, Vs.putL_len (by omega)]; exact lB0
  have K0 := Lib.hid (fun W => r36NumL_any B0 P0 16 4 16 3 4 rfl rfl hP0 B1 hB1 (by decide) (by omega) (by omega) (by decide) (by omega) (by omega) W)
  obtain ⟨P1, hP1⟩ : ∃ P : List UInt8, P = Vs.csL := ⟨_, rfl⟩
  have lP1 : P1.length = 64 := by rw [hP1]; first | assumption | rfl | exact Vs.n2_len _ | exact Vs.n4_len _ | exact Vs.longL_len _ _ _ _ | exact Vs.extL_len _ _ | exact Vs.cs_len | exact Vs.dom_len | exact Vs.impl_len | exact Vs.cont_len
  obtain ⟨B2, hB2⟩ : ∃ B : List UInt8, B = Vs.putL B1 20 P1 := ⟨_, rfl⟩
  have lB2 : B2.length = 424 + d.table.size := by rw [hB2, Vs.putL_len (by omega)]; exact lB1
  have K1 := Lib.hid (fun W => r36PutL_any B1 P1 20 20 rfl B2 hB2 (by decide) (by omega) (by omega) W)
  obtain ⟨P2, hP2⟩ : ∃ P : List UInt8, P = Vs.fldL (by_ d.vol.name) 128 := ⟨_, rfl⟩
  have lP2 : P2.length = 128 := by rw [hP2]; first | assumption | rfl | exact Vs.n2_len _ | exact Vs.n4_len _ | exact Vs.longL_len _ _ _ _ | exact Vs.extL_len _ _ | exact Vs.cs_len | exact Vs.dom_len | exact Vs.impl_len | exact Vs.cont_len
  obtain ⟨B3, hB3⟩ : ∃ B : List UInt8, B = Vs.putL B2 84 P2 := ⟨_, rfl⟩
  have lB3 : B3.length = 424 + d.table.size := by rw [hB3, Vs.putL_len (by omega)]; exact lB2
  have K2 := Lib.hid (fun W => r36PutL_any B2 P2 84 84 rfl B3 hB3 (by decide) (by omega) (by omega) W)
  obtain ⟨P3, hP3⟩ : ∃ P : List UInt8, P = Vs.n4 2048 := ⟨_, rfl⟩
  have lP3 : P3.length = 4 := by rw [hP3]; first | assumption | rfl | exact Vs.n2_len _ | exact Vs.n4_len _ | exact Vs.longL_len _ _ _ _ | exact Vs.extL_len _ _ | exact Vs.cs_len | exact Vs.dom_len | exact Vs.impl_len | exact Vs.cont_len
  obtain ⟨B4, hB4⟩ : ∃ B : List UInt8, B = Vs.putL B3 212 P3 := ⟨_, rfl⟩
  have lB4 : B4.length = 424 + d.table.size := by rw [hB4, Vs.putL_len (by omega)]; exact lB3
  have K3 := Lib.hid (fun W => r36NumL_any B3 P3 212 4 212 2048 4 rfl rfl hP3 B4 hB4 (by decide) (by omega) (by omega) (by decide) (by omega) (by omega) W)
  obtain ⟨P4, hP4⟩ : ∃ P : List UInt8, P = Vs.domL := ⟨_, rfl⟩
  have lP4 : P4.length = 32 := by rw [hP4]; first | assumption | rfl | exact Vs.n2_len _ | exact Vs.n4_len _ | exact Vs.longL_len _ _ _ _ | exact Vs.extL_len _ _ | exact Vs.cs_len | exact Vs.dom_len | exact Vs.impl_len | exact Vs.cont_len
  obtain ⟨B5, hB5⟩ : ∃ B : List UInt8, B = Vs.putL B4 216 P4 := ⟨_, rfl⟩
  have lB5 : B5.length = 424 + d.table.size := by rw [hB5, Vs.putL_len (by omega)]; exact lB4
  have K4 := Lib.hid (fun W => r36PutL_any B4 P4 216 216 rfl B5 hB5 (by decide) (by omega) (by omega) W)
  obtain ⟨P5, hP5⟩ : ∃ P : List UInt8, P = Vs.longL d.fk d.fl d.fb d.fp := ⟨_, rfl⟩
  have lP5 : P5.length = 16 := by rw [hP5]; first | assumption | rfl | exact Vs.n2_len _ | exact Vs.n4_len _ | exact Vs.longL_len _ _ _ _ | exact Vs.extL_len _ _ | exact Vs.cs_len | exact Vs.dom_len | exact Vs.impl_len | exact Vs.cont_len
  obtain ⟨B6, hB6⟩ : ∃ B : List UInt8, B = Vs.putL B5 248 P5 := ⟨_, rfl⟩
  have lB6 : B6.length = 424 + d.table.size := by rw [hB6, Vs.putL_len (by omega)]; exact lB5
  have K5 := Lib.hid (fun W => r36PutL_any B5 P5 248 248 rfl B6 hB6 (by decide) (by omega) (by omega) W)
  obtain ⟨P6, hP6⟩ : ∃ P : List UInt8, P = Vs.n4 d.table.size := ⟨_, rfl⟩
  have lP6 : P6.length = 4 := by rw [hP6]; first | assumption | rfl | exact Vs.n2_len _ | exact Vs.n4_len _ | exact Vs.longL_len _ _ _ _ | exact Vs.extL_len _ _ | exact Vs.cs_len | exact Vs.dom_len | exact Vs.impl_len | exact Vs.cont_len
  obtain ⟨B7, hB7⟩ : ∃ B : List UInt8, B = Vs.putL B6 264 P6 := ⟨_, rfl⟩
  have lB7 : B7.length = 424 + d.table.size := by rw [hB7, Vs.putL_len (by omega)]; exact lB6
  have K6 := Lib.hid (fun W => r36NumL_any B6 P6 264 4 264 (d.table.size : Int) 4 rfl rfl hP6 B7 hB7 (by decide) (by omega) (by omega) (by decide) (by omega) (by omega) W)
  obtain ⟨P7, hP7⟩ : ∃ P : List UInt8, P = Vs.n4 d.maps := ⟨_, rfl⟩
  have lP7 : P7.length = 4 := by rw [hP7]; first | assumption | rfl | exact Vs.n2_len _ | exact Vs.n4_len _ | exact Vs.longL_len _ _ _ _ | exact Vs.extL_len _ _ | exact Vs.cs_len | exact Vs.dom_len | exact Vs.impl_len | exact Vs.cont_len
  obtain ⟨B8, hB8⟩ : ∃ B : List UInt8, B = Vs.putL B7 268 P7 := ⟨_, rfl⟩
  have lB8 : B8.length = 424 + d.table.size := by rw [hB8, Vs.putL_len (by omega)]; exact lB7
  have K7 := Lib.hid (fun W => r36NumL_any B7 P7 268 4 268 d.maps 4 rfl rfl hP7 B8 hB8 (by decide) (by omega) (by omega) (by decide) (by omega) (by omega) W)
  obtain ⟨P8, hP8⟩ : ∃ P : List UInt8, P = Vs.implL := ⟨_, rfl⟩
  have lP8 : P8.length = 32 := by rw [hP8]; first | assumption | rfl | exact Vs.n2_len _ | exact Vs.n4_len _ | exact Vs.longL_len _ _ _ _ | exact Vs.extL_len _ _ | exact Vs.cs_len | exact Vs.dom_len | exact Vs.impl_len | exact Vs.cont_len
  obtain ⟨B9, hB9⟩ : ∃ B : List UInt8, B = Vs.putL B8 272 P8 := ⟨_, rfl⟩
  have lB9 : B9.length = 424 + d.table.size := by rw [hB9, Vs.putL_len (by omega)]; exact lB8
  have K8 := Lib.hid (fun W => r36PutL_any B8 P8 272 272 rfl B9 hB9 (by decide) (by omega) (by omega) W)
  obtain ⟨P9, hP9⟩ : ∃ P : List UInt8, P = Vs.extL d.istart d.icount := ⟨_, rfl⟩
  have lP9 : P9.length = 8 := by rw [hP9]; first | assumption | rfl | exact Vs.n2_len _ | exact Vs.n4_len _ | exact Vs.longL_len _ _ _ _ | exact Vs.extL_len _ _ | exact Vs.cs_len | exact Vs.dom_len | exact Vs.impl_len | exact Vs.cont_len
  obtain ⟨B10, hB10⟩ : ∃ B : List UInt8, B = Vs.putL B9 432 P9 := ⟨_, rfl⟩
  have lB10 : B10.length = 424 + d.table.size := by rw [hB10, Vs.putL_len (by omega)]; exact lB9
  have K9 := Lib.hid (fun W => r36PutL_any B9 P9 432 432 rfl B10 hB10 (by decide) (by omega) (by omega) W)
  have HE := Lib.hid (show B10 = Vs.logL d by
    rw [hB10, hB9, hB8, hB7, hB6, hB5, hB4, hB3, hB2, hB1, hB0, hP0, hP1, hP2, hP3, hP4, hP5, hP6, hP7, hP8, hP9, ← Vs.log_puts d lf]
    rfl)
  rw [HE.out] at K9
  have CZ := Lib.hid (fun W => vZeros_any 424 (by decide) (by decide) W)
  rw [show (⟨(List.replicate (424 : Int).toNat 0).toArray⟩ : ByteArray) = bs (Vs.z 424) from rfl] at CZ
  have HBE := Lib.hid (show bs (Vs.z 424) ++ d.table = bs B0 by
    rw [hB0]
    have hx : d.table = bs (by_ d.table) := (Vs.bs_by _).symm
    conv => lhs; rw [hx]
    exact Vs.bs_app _ _)
  rw [← HBE.out] at K0
  have zz : (bs (Vs.z 424)).size ≤ 424 := by rw [Vs.bs_size, Vs.z_len]; decide
  have CC := Lib.hid (fun W => (show Calls Tryz.prog 102 #[] W fun e w' => e = .returned (.string (bs Vs.csL)) ∧ Below W.heap.size W w' from r36Charspec_any W))
  have CF := Lib.hid (fun W => r36Field_any d.vol.name 128 W s1 (by decide))
  have CL := Lib.hid (fun W => r36Long_any ⟨d.fk, d.fl, d.fb, d.fp⟩ W (by rw [Pm.formed1_iff]; exact (Vs.formed_iff _ _ _ _).1 k5))
  simp only [Pm.exV] at CL
  have CE := Lib.hid (fun W => r36Extent_any d.istart d.icount k6 W)
  have CI := Lib.hid (fun W => (show Calls Tryz.prog 105 #[.string ⟨#[42, 109, 97, 115, 116, 101, 114, 100, 105, 115, 99]⟩, .string ⟨#[]⟩] W fun e w' => e = .returned (.string (bs Vs.implL)) ∧ Below W.heap.size W w' from r36Entity_any _ _ W (by decide) (by decide)))
  have CD := Lib.hid (fun W => (show Calls Tryz.prog 105 #[.string ⟨#[42, 79, 83, 84, 65, 32, 85, 68, 70, 32, 67, 111, 109, 112, 108, 105, 97, 110, 116]⟩, .string ⟨#[1, 2]⟩] W fun e w' => e = .returned (.string (bs Vs.domL)) ∧ Below W.heap.size W w' from r36Entity_any _ _ W (by decide) (by decide)))
  have ht2 : (d.table.size : Int) ≤ 1608 := by omega
  clear k1 k2 k3 k4 k5 k6 lf htb HBE hd
  clear hB0 hB1 hB2 hB3 hB4 hB5 hB6 hB7 hB8 hB9 hB10 lB0 lB1 lB2 lB3 lB4 lB5 lB6 lB7 lB8 lB9 lB10 lP0 lP1 lP2 lP3 lP4 lP5 lP6 lP7 lP8 lP9 HE
  try rw [hP0] at K0
  try rw [hP1] at K1
  try rw [hP2] at K2
  try rw [hP3] at K3
  try rw [hP4] at K4
  try rw [hP5] at K5
  try rw [hP6] at K6
  try rw [hP7] at K7
  try rw [hP8] at K8
  try rw [hP9] at K9
  clear hP0 hP1 hP2 hP3 hP4 hP5 hP6 hP7 hP8 hP9 B10 P0 P1 P2 P3 P4 P5 P6 P7 P8 P9
  generalize bs B0 = b0 at *
  generalize bs B1 = b1 at *
  generalize bs B2 = b2 at *
  generalize bs B3 = b3 at *
  generalize bs B4 = b4 at *
  generalize bs B5 = b5 at *
  generalize bs B6 = b6 at *
  generalize bs B7 = b7 at *
  generalize bs B8 = b8 at *
  generalize bs B9 = b9 at *
  generalize bs (Vs.fldL (by_ d.vol.name) 128) = f1 at *
  generalize bs (Vs.csL) = cs at *
  generalize bs (Vs.longL d.fk d.fl d.fb d.fp) = lo at *
  generalize bs (Vs.extL d.istart d.icount) = ex at *
  generalize bs (Vs.implL) = im at *
  generalize bs (Vs.domL) = dm at *
  generalize bs (Vs.z 424) = z4 at *
  generalize bs (Vs.logL d) = bf at *
  have HBc := Lib.hid ((Below.refl w.heap.size w).alloc (Nat.le_refl _) (.cells (Vs.dC d) 46))
  have HNc := Lib.hid (heap_alloc_new w (.cells (Vs.dC d) 46))
  obtain ⟨Z, hZ⟩ : ∃ Z, Z = Vs.dC d := ⟨_, rfl⟩
  rw [← hZ]
  rw [← hZ] at HBc HNc
  have HZ := Lib.hid hZ
  clear hZ
  go_enter Tryz.func79, Tryz.ntmps79
  go_upto_region 1 with fail
  generalize w.alloc (.cells Z 46) = wx at *
  rw [HZ.out] at HNc
  clear HZ
  have c15 := (cell_of_row _ _ 15 _ _ _ HNc.out).trans (show (Vs.dC d)[15]? = some (.string d.table) from rfl)
  have hlt := (Array.getElem?_eq_some_iff.1 HNc.out).1
  have y15 := fun x : Later wx.heap.size wx => later_cell x hlt c15
  go_wp2_with fail
  refine wp_region_later wx.heap.size (by kernel_rfl) (by kernel_rfl) ?_
  repeat (any_goals (first | go_big_quiet_skip | (go_big_quiet_want; go_big_quiet_op; first | go_big_quiet_on | (apply Exists.intro; refine ⟨fun _ => ?_, ?_⟩; (first | (with_reducible refine Calls.later_of ?_ (CZ.out _); exact Nat.le_refl _)); go_big_quiet_on))))
  refine wpQuiet_nil ?_
  intro wy hw'
  obtain ⟨⟨wz, hbq⟩, hw''⟩ := hw'
  subst hw''
  have HBc := Lib.hid (HBc.out.trans (hbq.mono HBc.out.size))
  have HNc := Lib.hid ((hbq.block _ hlt).trans HNc.out)
  clear hbq hlt c15 y15
  generalize wy = wx at *
  have c0 := (cell_of_row _ _ 0 _ _ _ HNc.out).trans (show (Vs.dC d)[0]? = some (.string d.vol.name) from rfl)
  have hlt := (Array.getElem?_eq_some_iff.1 HNc.out).1
  have y0 := fun x : Later wx.heap.size wx => later_cell x hlt c0
  go_wp2_with fail
  refine wp_region_later wx.heap.size (by kernel_rfl) (by kernel_rfl) ?_
  repeat (any_goals (first | go_big_quiet_skip | (go_big_quiet_want; go_big_quiet_op; first | go_big_quiet_on | (apply Exists.intro; refine ⟨fun _ => ?_, ?_⟩; (first | (with_reducible refine Calls.later_of ?_ (K0.out _); exact Nat.le_refl _) | (with_reducible refine Calls.later_of ?_ (CC.out _); exact Nat.le_refl _) | (with_reducible refine Calls.later_of ?_ (K1.out _); exact Nat.le_refl _) | (with_reducible refine Calls.later_of ?_ (CF.out _); exact Nat.le_refl _) | (with_reducible refine Calls.later_of ?_ (K2.out _); exact Nat.le_refl _)); go_big_quiet_on))))
  refine wpQuiet_nil ?_
  intro wy hw'
  obtain ⟨⟨wz, hbq⟩, hw''⟩ := hw'
  subst hw''
  have HBc := Lib.hid (HBc.out.trans (hbq.mono HBc.out.size))
  have HNc := Lib.hid ((hbq.block _ hlt).trans HNc.out)
  clear hbq hlt c0 y0
  generalize wy = wx at *
  have c16 := (cell_of_row _ _ 16 _ _ _ HNc.out).trans (show (Vs.dC d)[16]? = some (.int .i64 d.fk) from rfl)
  have c17 := (cell_of_row _ _ 17 _ _ _ HNc.out).trans (show (Vs.dC d)[17]? = some (.int .i64 d.fl) from rfl)
  have c18 := (cell_of_row _ _ 18 _ _ _ HNc.out).trans (show (Vs.dC d)[18]? = some (.int .i64 d.fb) from rfl)
  have c19 := (cell_of_row _ _ 19 _ _ _ HNc.out).trans (show (Vs.dC d)[19]? = some (.int .i64 d.fp) from rfl)
  have hlt := (Array.getElem?_eq_some_iff.1 HNc.out).1
  have y16 := fun x : Later wx.heap.size wx => later_cell x hlt c16
  have y17 := fun x : Later wx.heap.size wx => later_cell x hlt c17
  have y18 := fun x : Later wx.heap.size wx => later_cell x hlt c18
  have y19 := fun x : Later wx.heap.size wx => later_cell x hlt c19
  go_wp2_with fail
  refine wp_region_later wx.heap.size (by kernel_rfl) (by kernel_rfl) ?_
  repeat (any_goals (first | go_big_quiet_skip | (go_big_quiet_want; go_big_quiet_op; first | go_big_quiet_on | (apply Exists.intro; refine ⟨fun _ => ?_, ?_⟩; (first | (with_reducible refine Calls.later_of ?_ (K3.out _); exact Nat.le_refl _) | (with_reducible refine Calls.later_of ?_ (CD.out _); exact Nat.le_refl _) | (with_reducible refine Calls.later_of ?_ (K4.out _); exact Nat.le_refl _) | (with_reducible refine Calls.later_of ?_ (CL.out _); exact Nat.le_refl _) | (with_reducible refine Calls.later_of ?_ (K5.out _); exact Nat.le_refl _)); go_big_quiet_on))))
  refine wpQuiet_nil ?_
  intro wy hw'
  obtain ⟨⟨wz, hbq⟩, hw''⟩ := hw'
  subst hw''
  have HBc := Lib.hid (HBc.out.trans (hbq.mono HBc.out.size))
  have HNc := Lib.hid ((hbq.block _ hlt).trans HNc.out)
  clear hbq hlt c16 y16 c17 y17 c18 y18 c19 y19
  generalize wy = wx at *
  have c15 := (cell_of_row _ _ 15 _ _ _ HNc.out).trans (show (Vs.dC d)[15]? = some (.string d.table) from rfl)
  have c14 := (cell_of_row _ _ 14 _ _ _ HNc.out).trans (show (Vs.dC d)[14]? = some (.int .i64 d.maps) from rfl)
  have hlt := (Array.getElem?_eq_some_iff.1 HNc.out).1
  have y15 := fun x : Later wx.heap.size wx => later_cell x hlt c15
  have y14 := fun x : Later wx.heap.size wx => later_cell x hlt c14
  go_wp2_with fail
  refine wp_region_later wx.heap.size (by kernel_rfl) (by kernel_rfl) ?_
  repeat (any_goals (first | go_big_quiet_skip | (go_big_quiet_want; go_big_quiet_op; first | go_big_quiet_on | (apply Exists.intro; refine ⟨fun _ => ?_, ?_⟩; (first | (with_reducible refine Calls.later_of ?_ (K6.out _); exact Nat.le_refl _) | (with_reducible refine Calls.later_of ?_ (K7.out _); exact Nat.le_refl _)); go_big_quiet_on))))
  refine wpQuiet_nil ?_
  intro wy hw'
  obtain ⟨⟨wz, hbq⟩, hw''⟩ := hw'
  subst hw''
  have HBc := Lib.hid (HBc.out.trans (hbq.mono HBc.out.size))
  have HNc := Lib.hid ((hbq.block _ hlt).trans HNc.out)
  clear hbq hlt c15 y15 c14 y14
  generalize wy = wx at *
  have c20 := (cell_of_row _ _ 20 _ _ _ HNc.out).trans (show (Vs.dC d)[20]? = some (.int .i64 d.istart) from rfl)
  have c21 := (cell_of_row _ _ 21 _ _ _ HNc.out).trans (show (Vs.dC d)[21]? = some (.int .i64 d.icount) from rfl)
  have hlt := (Array.getElem?_eq_some_iff.1 HNc.out).1
  have y20 := fun x : Later wx.heap.size wx => later_cell x hlt c20
  have y21 := fun x : Later wx.heap.size wx => later_cell x hlt c21
  go_wp2_with fail
  refine wp_region_later wx.heap.size (by kernel_rfl) (by kernel_rfl) ?_
  repeat (any_goals (first | go_big_quiet_skip | (go_big_quiet_want; go_big_quiet_op; first | go_big_quiet_on | (apply Exists.intro; refine ⟨fun _ => ?_, ?_⟩; (first | (with_reducible refine Calls.later_of ?_ (CI.out _); exact Nat.le_refl _) | (with_reducible refine Calls.later_of ?_ (K8.out _); exact Nat.le_refl _) | (with_reducible refine Calls.later_of ?_ (CE.out _); exact Nat.le_refl _) | (with_reducible refine Calls.later_of ?_ (K9.out _); exact Nat.le_refl _)); go_big_quiet_on))))
  refine wpQuiet_nil ?_
  intro wy hw'
  obtain ⟨⟨wz, hbq⟩, hw''⟩ := hw'
  subst hw''
  have HBc := Lib.hid (HBc.out.trans (hbq.mono HBc.out.size))
  have HNc := Lib.hid ((hbq.block _ hlt).trans HNc.out)
  clear hbq hlt c20 y20 c21 y21
  generalize wy = wx at *
  go_wp2_with fail
  go_ret
  exact ⟨rfl, HBc.out⟩
end Go.Proofs.YthkppbimkjmbnaaGreatDoor

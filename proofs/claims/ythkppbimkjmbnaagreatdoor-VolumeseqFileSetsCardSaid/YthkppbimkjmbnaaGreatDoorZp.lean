/-
  The walks through the reference's FileSet and ParseFileSet.
-/
import Derived.Test.YthkppbimkjmbnaaGreatDoorZo
import Derived.Test.YthkppbimkjmbnaaGreatDoorZz
import Derived.Test.YthkppbimkjmbnaaGreatDoorZn
import Derived.Test.YthkppbimkjmbnaaGreatDoorZg
namespace Go.Proofs.YthkppbimkjmbnaaGreatDoor
open Go.RowKit
open Vs (bs by_)

set_option maxHeartbeats 1600000 in
set_option maxRecDepth 100000 in
/-- masterdiscref32.Charspec. -/
theorem rCharspec_any (w : World) : Calls Tryz.prog 102 #[] w fun e w' => e = .returned (.string ⟨charspecL.toArray⟩) ∧ Below w.heap.size w w' := by
  have cZ := fun W => vZeros_any 40 (by decide) (by decide) W
  generalize hr : List.replicate (40 : Int).toNat (0 : UInt8) = r at cZ
  have hr' : r = List.replicate 40 0 := hr.symm
  have hl : r.length ≤ 40 := by rw [hr']; simp
  have HR := Lib.hid hr'
  have CZ := Lib.hid cZ
  clear cZ hr hr'
  go_enter Tryz.func102, Tryz.ntmps102
  go_wp2_with fail
  with_reducible refine (CZ.out _).mono ?_
  rintro e w3 ⟨rfl, hb3⟩
  go_wp2_with fail
  go_ret
  refine ⟨?_, hb3⟩
  rw [HR.out]
  exact congrArg (fun s => Ending.returned (.string s)) (Kit.append_mk [0, 79, 83, 84, 65, 32, 67, 111, 109, 112, 114, 101, 115, 115, 101, 100, 32, 85, 110, 105, 99, 111, 100, 101] _)

set_option maxHeartbeats 6400000 in
set_option maxRecDepth 100000 in
/-- masterdiscref36.FileSet. -/
theorem r36FileSet_any (f : Vs.Fs) (loc : Int) (w : World) (s1 : f.name.size ≤ 9223372036854775807) :
    Calls Tryz.prog 33 #[.agg (Vs.fsC f), .int .i64 loc] w fun e w' => e = .returned (.tuple #[.string (bs (Vs.fsetR f loc).1), .int .i64 (Vs.fsetR f loc).2]) ∧ Below w.heap.size w w' := by
  have CW := Lib.hid (fun W => r36Word_any loc W)
  have CS := Lib.hid (fun W => r36Set_any f W s1)
  have HR := Lib.hid (show Vs.fsetR f loc = if Vs.word loc = true then (if Vs.okFs f = true then (Vs.blk 256 1 loc.toNat (Vs.fsL f), 0) else ([], 1)) else ([], 2) from rfl)
  have HF := Lib.hid (fun h => Vs.fs_len (f := f) h)
  have HPU := Lib.hid (fun h1 h2 h3 => Vs.fs_puts f h1 h2 h3)
  have HOK := Lib.hid (Vs.okFs_iff f)
  have HWL := Lib.hid (Vs.word_iff loc)
  have HB := Lib.hid ((Below.refl w.heap.size w).alloc (Nat.le_refl _) (.cells (Vs.fsC f) 65))
  have HN := Lib.hid (heap_alloc_new w (.cells (Vs.fsC f) 65))
  generalize Vs.fsetR f loc = RR at *
  generalize Vs.fsL f = FL at *
  obtain ⟨num, tm, name, rb, rp⟩ := f
  unfold Vs.fsC at *
  simp only [] at *
  generalize Vs.okFs ⟨num, tm, name, rb, rp⟩ = ok at *
  cases hwl : Vs.word loc with
  | false =>
    rw [hwl] at CW
    have HR2 := Lib.hid (HR.out.trans (if_neg (by rw [hwl]; decide)))
    rw [HR2.out]
    clear HR HR2 HF HWL hwl
    go_enter Tryz.func33, Tryz.ntmps33
    go_wp2_with (with_reducible refine (CW.out _).mono ?_; rintro e wx ⟨rfl, hw⟩; subst hw)
    go_ret2
    exact ⟨rfl, HB.out⟩
  | true =>
  rw [hwl] at CW
  have HR1 := Lib.hid (HR.out.trans (if_pos hwl))
  cases ok with
  | false =>
    have HR2 := Lib.hid (HR1.out.trans (if_neg (by decide)))
    rw [HR2.out]
    clear HR HR1 HR2 HF HWL hwl
    go_enter Tryz.func33, Tryz.ntmps33
    go_wp2_with (with_reducible refine (CW.out _).mono ?_; rintro e wx ⟨rfl, hw⟩; subst hw)
    with_reducible refine (CS.out _).mono ?_
    rintro e w2 ⟨rfl, hb2⟩
    have HB2 := Lib.hid (HB.out.trans (hb2.mono HB.out.size))
    clear hb2
    go_wp2_with fail
    go_ret2
    exact ⟨rfl, HB2.out⟩
  | true =>
    have HR2 := Lib.hid (HR1.out.trans (if_pos rfl))
    have hlen := HF.out rfl
    obtain ⟨hl0, hl1⟩ := HWL.out.1 hwl
    obtain ⟨N, hN⟩ : ∃ N : Nat, loc = N := ⟨loc.toNat, by omega⟩
    subst hN
    rw [HR2.out, Int.toNat_natCast]
    obtain ⟨k1, k2, k3, k4, k5, k6⟩ := HOK.out.1 rfl
    obtain ⟨k11, k12⟩ := (Vs.word_iff num).1 k1
    obtain ⟨k21, k22⟩ := (Vs.word_iff rb).1 k2
    have hnt := Vs.named_text k6
    have lq0 := Vs.stampR_len k5
    have lq8 := Vs.fld128 hnt
    have lq9 := Vs.fld32 hnt
    obtain ⟨B0, hB0⟩ : ∃ B : List UInt8, B = Vs.z 496 := ⟨_, rfl⟩
    have lB0 : B0.length = 496 := by rw [hB0]; exact Vs.z_len _
    obtain ⟨P0, hP0⟩ : ∃ P : List UInt8, P = Vs.stampR tm := ⟨_, rfl⟩
    have lP0 : P0.length = 12 := by rw [hP0]; first | exact lq0 | rfl | exact Vs.n2_len _ | exact Vs.n4_len _ | exact Vs.longL_len _ _ _ _ | exact Vs.cs_len | exact Vs.dom_len | exact Vs.impl_len | exact Vs.cont_len
    obtain ⟨B1, hB1⟩ : ∃ B : List UInt8, B = Vs.putL B0 16 P0 := ⟨_, rfl⟩
    have lB1 : B1.length = 496 := by rw [hB1, Vs.putL_len (by omega)]; exact lB0
    have K0 := Lib.hid (fun W => r36PutL_any B0 P0 16 16 rfl B1 hB1 (by decide) (by omega) (by omega) W)
    obtain ⟨P1, hP1⟩ : ∃ P : List UInt8, P = Vs.n2 3 := ⟨_, rfl⟩
    have lP1 : P1.length = 2 := by rw [hP1]; first | exact lq1 | rfl | exact Vs.n2_len _ | exact Vs.n4_len _ | exact Vs.longL_len _ _ _ _ | exact Vs.cs_len | exact Vs.dom_len | exact Vs.impl_len | exact Vs.cont_len
    obtain ⟨B2, hB2⟩ : ∃ B : List UInt8, B = Vs.putL B1 28 P1 := ⟨_, rfl⟩
    have lB2 : B2.length = 496 := by rw [hB2, Vs.putL_len (by omega)]; exact lB1
    have K1 := Lib.hid (fun W => r36NumL_any B1 P1 28 2 28 3 2 rfl rfl hP1 B2 hB2 (by decide) (by omega) (by omega) (by decide) (by omega) (by omega) W)
    obtain ⟨P2, hP2⟩ : ∃ P : List UInt8, P = Vs.n2 3 := ⟨_, rfl⟩
    have lP2 : P2.length = 2 := by rw [hP2]; first | exact lq2 | rfl | exact Vs.n2_len _ | exact Vs.n4_len _ | exact Vs.longL_len _ _ _ _ | exact Vs.cs_len | exact Vs.dom_len | exact Vs.impl_len | exact Vs.cont_len
    obtain ⟨B3, hB3⟩ : ∃ B : List UInt8, B = Vs.putL B2 30 P2 := ⟨_, rfl⟩
    have lB3 : B3.length = 496 := by rw [hB3, Vs.putL_len (by omega)]; exact lB2
    have K2 := Lib.hid (fun W => r36NumL_any B2 P2 30 2 30 3 2 rfl rfl hP2 B3 hB3 (by decide) (by omega) (by omega) (by decide) (by omega) (by omega) W)
    obtain ⟨P3, hP3⟩ : ∃ P : List UInt8, P = Vs.n4 1 := ⟨_, rfl⟩
    have lP3 : P3.length = 4 := by rw [hP3]; first | exact lq3 | rfl | exact Vs.n2_len _ | exact Vs.n4_len _ | exact Vs.longL_len _ _ _ _ | exact Vs.cs_len | exact Vs.dom_len | exact Vs.impl_len | exact Vs.cont_len
    obtain ⟨B4, hB4⟩ : ∃ B : List UInt8, B = Vs.putL B3 32 P3 := ⟨_, rfl⟩
    have lB4 : B4.length = 496 := by rw [hB4, Vs.putL_len (by omega)]; exact lB3
    have K3 := Lib.hid (fun W => r36NumL_any B3 P3 32 4 32 1 4 rfl rfl hP3 B4 hB4 (by decide) (by omega) (by omega) (by decide) (by omega) (by omega) W)
    obtain ⟨P4, hP4⟩ : ∃ P : List UInt8, P = Vs.n4 1 := ⟨_, rfl⟩
    have lP4 : P4.length = 4 := by rw [hP4]; first | exact lq4 | rfl | exact Vs.n2_len _ | exact Vs.n4_len _ | exact Vs.longL_len _ _ _ _ | exact Vs.cs_len | exact Vs.dom_len | exact Vs.impl_len | exact Vs.cont_len
    obtain ⟨B5, hB5⟩ : ∃ B : List UInt8, B = Vs.putL B4 36 P4 := ⟨_, rfl⟩
    have lB5 : B5.length = 496 := by rw [hB5, Vs.putL_len (by omega)]; exact lB4
    have K4 := Lib.hid (fun W => r36NumL_any B4 P4 36 4 36 1 4 rfl rfl hP4 B5 hB5 (by decide) (by omega) (by omega) (by decide) (by omega) (by omega) W)
    obtain ⟨P5, hP5⟩ : ∃ P : List UInt8, P = Vs.n4 num := ⟨_, rfl⟩
    have lP5 : P5.length = 4 := by rw [hP5]; first | exact lq5 | rfl | exact Vs.n2_len _ | exact Vs.n4_len _ | exact Vs.longL_len _ _ _ _ | exact Vs.cs_len | exact Vs.dom_len | exact Vs.impl_len | exact Vs.cont_len
    obtain ⟨B6, hB6⟩ : ∃ B : List UInt8, B = Vs.putL B5 44 P5 := ⟨_, rfl⟩
    have lB6 : B6.length = 496 := by rw [hB6, Vs.putL_len (by omega)]; exact lB5
    have K5 := Lib.hid (fun W => r36NumL_any B5 P5 44 4 44 num 4 rfl rfl hP5 B6 hB6 (by decide) (by omega) (by omega) (by decide) (by omega) (by omega) W)
    obtain ⟨P6, hP6⟩ : ∃ P : List UInt8, P = Vs.csL := ⟨_, rfl⟩
    have lP6 : P6.length = 64 := by rw [hP6]; first | exact lq6 | rfl | exact Vs.n2_len _ | exact Vs.n4_len _ | exact Vs.longL_len _ _ _ _ | exact Vs.cs_len | exact Vs.dom_len | exact Vs.impl_len | exact Vs.cont_len
    obtain ⟨B7, hB7⟩ : ∃ B : List UInt8, B = Vs.putL B6 48 P6 := ⟨_, rfl⟩
    have lB7 : B7.length = 496 := by rw [hB7, Vs.putL_len (by omega)]; exact lB6
    have K6 := Lib.hid (fun W => r36PutL_any B6 P6 48 48 rfl B7 hB7 (by decide) (by omega) (by omega) W)
    obtain ⟨P7, hP7⟩ : ∃ P : List UInt8, P = Vs.csL := ⟨_, rfl⟩
    have lP7 : P7.length = 64 := by rw [hP7]; first | exact lq7 | rfl | exact Vs.n2_len _ | exact Vs.n4_len _ | exact Vs.longL_len _ _ _ _ | exact Vs.cs_len | exact Vs.dom_len | exact Vs.impl_len | exact Vs.cont_len
    obtain ⟨B8, hB8⟩ : ∃ B : List UInt8, B = Vs.putL B7 240 P7 := ⟨_, rfl⟩
    have lB8 : B8.length = 496 := by rw [hB8, Vs.putL_len (by omega)]; exact lB7
    have K7 := Lib.hid (fun W => r36PutL_any B7 P7 240 240 rfl B8 hB8 (by decide) (by omega) (by omega) W)
    obtain ⟨P8, hP8⟩ : ∃ P : List UInt8, P = Vs.fldL (by_ name) 128 := ⟨_, rfl⟩
    have lP8 : P8.length = 128 := by rw [hP8]; first | exact lq8 | rfl | exact Vs.n2_len _ | exact Vs.n4_len _ | exact Vs.longL_len _ _ _ _ | exact Vs.cs_len | exact Vs.dom_len | exact Vs.impl_len | exact Vs.cont_len
    obtain ⟨B9, hB9⟩ : ∃ B : List UInt8, B = Vs.putL B8 112 P8 := ⟨_, rfl⟩
    have lB9 : B9.length = 496 := by rw [hB9, Vs.putL_len (by omega)]; exact lB8
    have K8 := Lib.hid (fun W => r36PutL_any B8 P8 112 112 rfl B9 hB9 (by decide) (by omega) (by omega) W)
    obtain ⟨P9, hP9⟩ : ∃ P : List UInt8, P = Vs.fldL (by_ name) 32 := ⟨_, rfl⟩
    have lP9 : P9.length = 32 := by rw [hP9]; first | exact lq9 | rfl | exact Vs.n2_len _ | exact Vs.n4_len _ | exact Vs.longL_len _ _ _ _ | exact Vs.cs_len | exact Vs.dom_len | exact Vs.impl_len | exact Vs.cont_len
    obtain ⟨B10, hB10⟩ : ∃ B : List UInt8, B = Vs.putL B9 304 P9 := ⟨_, rfl⟩
    have lB10 : B10.length = 496 := by rw [hB10, Vs.putL_len (by omega)]; exact lB9
    have K9 := Lib.hid (fun W => r36PutL_any B9 P9 304 304 rfl B10 hB10 (by decide) (by omega) (by omega) W)
    obtain ⟨P10, hP10⟩ : ∃ P : List UInt8, P = Vs.longL 0 2048 rb rp := ⟨_, rfl⟩
    have lP10 : P10.length = 16 := by rw [hP10]; first | exact lq10 | rfl | exact Vs.n2_len _ | exact Vs.n4_len _ | exact Vs.longL_len _ _ _ _ | exact Vs.cs_len | exact Vs.dom_len | exact Vs.impl_len | exact Vs.cont_len
    obtain ⟨B11, hB11⟩ : ∃ B : List UInt8, B = Vs.putL B10 400 P10 := ⟨_, rfl⟩
    have lB11 : B11.length = 496 := by rw [hB11, Vs.putL_len (by omega)]; exact lB10
    have K10 := Lib.hid (fun W => r36PutL_any B10 P10 400 400 rfl B11 hB11 (by decide) (by omega) (by omega) W)
    obtain ⟨P11, hP11⟩ : ∃ P : List UInt8, P = Vs.domL := ⟨_, rfl⟩
    have lP11 : P11.length = 32 := by rw [hP11]; first | exact lq11 | rfl | exact Vs.n2_len _ | exact Vs.n4_len _ | exact Vs.longL_len _ _ _ _ | exact Vs.cs_len | exact Vs.dom_len | exact Vs.impl_len | exact Vs.cont_len
    obtain ⟨B12, hB12⟩ : ∃ B : List UInt8, B = Vs.putL B11 416 P11 := ⟨_, rfl⟩
    have lB12 : B12.length = 496 := by rw [hB12, Vs.putL_len (by omega)]; exact lB11
    have K11 := Lib.hid (fun W => r36PutL_any B11 P11 416 416 rfl B12 hB12 (by decide) (by omega) (by omega) W)
    have HE := Lib.hid (show B12 = FL by
      rw [hB12, hB11, hB10, hB9, hB8, hB7, hB6, hB5, hB4, hB3, hB2, hB1, hB0, hP0, hP1, hP2, hP3, hP4, hP5, hP6, hP7, hP8, hP9, hP10, hP11, ← HPU.out lq0 lq8 lq9]
      rfl)
    have CZ := Lib.hid (fun W => vZeros_any 496 (by decide) (by decide) W)
    rw [show (⟨(List.replicate (496 : Int).toNat 0).toArray⟩ : ByteArray) = bs (Vs.z 496) from rfl, ← hB0] at CZ
    have CT := Lib.hid (fun W => r36Stamp_any tm W k5)
    rw [← hP0] at CT
    have CC := Lib.hid (fun W => (show Calls Tryz.prog 102 #[] W fun e w' => e = .returned (.string (bs Vs.csL)) ∧ Below W.heap.size W w' from rCharspec_any W))
    have CC2 := CC
    rw [← hP6] at CC
    rw [← hP7] at CC2
    have CF1 := Lib.hid (fun W => r36Field_any name 128 W s1 (by decide))
    rw [← hP8] at CF1
    have CF2 := Lib.hid (fun W => r36Field_any name 32 W s1 (by decide))
    rw [← hP9] at CF2
    have CL := Lib.hid (fun W => r36Long_any ⟨0, 2048, rb, rp⟩ W ((Pm.formed1_iff _).2 ⟨show (0 : Int) ≤ 0 by decide, show (0 : Int) ≤ 3 by decide, show (1 : Int) ≤ 2048 by decide, show (2048 : Int) < 1073741824 by decide, k21, k22, k3, k4⟩))
    simp only [Pm.exV] at CL
    rw [← hP10] at CL
    have CD := Lib.hid (fun W => (show Calls Tryz.prog 105 #[.string ⟨#[42, 79, 83, 84, 65, 32, 85, 68, 70, 32, 67, 111, 109, 112, 108, 105, 97, 110, 116]⟩, .string ⟨#[1, 2]⟩] W fun e w' => e = .returned (.string (bs Vs.domL)) ∧ Below W.heap.size W w' from r36Entity_any _ _ W (by decide) (by decide)))
    rw [← hP11] at CD
    have CB := Lib.hid (fun W => r31Block_any 256 1 (N : Int) (bs FL) W (by rw [Vs.bs_size, hlen]; decide))
    have HBB := Lib.hid (show Vs.blockR 256 1 (N : Int) FL = (Vs.blk 256 1 N FL, 0) from Vs.blockR_ok (id := 256) (ser := 1) (by decide) (by decide) (by omega) (by rw [hlen]; decide))
    rw [Vs.by_bs, HBB.out] at CB
    simp only [] at CB
    rw [HE.out] at K11
    have hP67 : P6 = P7 := by rw [hP6, hP7]
    subst hP67
    clear hB0 hB1 hB2 hB3 hB4 hB5 hB6 hB7 hB8 hB9 hB10 hB11 hB12 lB0 lB1 lB2 lB3 lB4 lB5 lB6 lB7 lB8 lB9 lB10 lB11 lB12 lP0 lP1 lP2 lP3 lP4 lP5 lP6 lP7 lP8 lP9 lP10 lP11 hP0 hP1 hP2 hP3 hP4 hP5 hP6 hP8 hP9 hP10 hP11 lq0 lq8 lq9 HR HR1 HR2 HF HPU HOK HWL HBB HE hwl hlen hl0 hl1 k1 k2 k3 k4 k5 k6 k11 k12 k21 k22 hnt CC2
    clear B12
    generalize bs B0 = b0 at *
    generalize bs B1 = b1 at *
    generalize bs B2 = b2 at *
    generalize bs B3 = b3 at *
    generalize bs B4 = b4 at *
    generalize bs B5 = b5 at *
    generalize bs B6 = b6 at *
    generalize bs B7 = b7 at *
    generalize bs B8 = b8 at *
    generalize bs B9 = b9 at *
    generalize bs B10 = b10 at *
    generalize bs B11 = b11 at *
    generalize bs P0 = p0 at *
    generalize bs P1 = p1 at *
    generalize bs P2 = p2 at *
    generalize bs P3 = p3 at *
    generalize bs P4 = p4 at *
    generalize bs P5 = p5 at *
    generalize bs P6 = p6 at *
    generalize bs P8 = p8 at *
    generalize bs P9 = p9 at *
    generalize bs P10 = p10 at *
    generalize bs P11 = p11 at *
    generalize bs FL = fb at *
    generalize bs (Vs.blk 256 1 N FL) = bl at *
    go_enter Tryz.func33, Tryz.ntmps33
    go_wp2_with (with_reducible refine (CW.out _).mono ?_; rintro e wx ⟨rfl, hw⟩; subst hw)
    with_reducible refine (CS.out _).mono ?_
    rintro e w2 ⟨rfl, hb2⟩
    have HBw2 := Lib.hid (HB.out.trans (hb2.mono HB.out.size))
    have HNw2 := Lib.hid ((hb2.block w.heap.size (by simp)).trans HN.out)
    clear hb2 HB HN CW CS
    have c1 := cell_of_row _ _ 1 _ _ _ HNw2.out
    simp only [List.getElem?_toArray, List.getElem?_cons_zero, List.getElem?_cons_succ] at c1
    have hlt := (Array.getElem?_eq_some_iff.1 HNw2.out).1
    have y1 := fun x : Later w2.heap.size w2 => later_cell x hlt c1
    go_wp2_with fail
    refine wp_region_later w2.heap.size (by kernel_rfl) (by kernel_rfl) ?_
    repeat (any_goals (first | go_big_quiet_skip | (go_big_quiet_want; go_big_quiet_op; first | go_big_quiet_on | (apply Exists.intro; refine ⟨fun _ => ?_, ?_⟩; (first | (with_reducible refine Calls.later_of ?_ (CZ.out _); exact Nat.le_refl _) | (with_reducible refine Calls.later_of ?_ (CT.out _); exact Nat.le_refl _) | (with_reducible refine Calls.later_of ?_ (K0.out _); exact Nat.le_refl _)); go_big_quiet_on))))
    refine wpQuiet_nil ?_
    intro w3 hw'
    obtain ⟨⟨wz, hbq⟩, hw''⟩ := hw'
    subst hw''
    have HBw3 := Lib.hid (HBw2.out.trans (hbq.mono HBw2.out.size))
    have HNw3 := Lib.hid ((hbq.block _ hlt).trans HNw2.out)
    clear hbq hlt c1 y1
    have c0 := cell_of_row _ _ 0 _ _ _ HNw3.out
    simp only [List.getElem?_toArray, List.getElem?_cons_zero] at c0
    have hlt := (Array.getElem?_eq_some_iff.1 HNw3.out).1
    have y0 := fun x : Later w3.heap.size w3 => later_cell x hlt c0
    go_wp2_with fail
    refine wp_region_later w3.heap.size (by kernel_rfl) (by kernel_rfl) ?_
    repeat (any_goals (first | go_big_quiet_skip | (go_big_quiet_want; go_big_quiet_op; first | go_big_quiet_on | (apply Exists.intro; refine ⟨fun _ => ?_, ?_⟩; (first | (with_reducible refine Calls.later_of ?_ (K1.out _); exact Nat.le_refl _) | (with_reducible refine Calls.later_of ?_ (K2.out _); exact Nat.le_refl _) | (with_reducible refine Calls.later_of ?_ (K3.out _); exact Nat.le_refl _) | (with_reducible refine Calls.later_of ?_ (K4.out _); exact Nat.le_refl _) | (with_reducible refine Calls.later_of ?_ (K5.out _); exact Nat.le_refl _)); go_big_quiet_on))))
    refine wpQuiet_nil ?_
    intro w4 hw'
    obtain ⟨⟨wz, hbq⟩, hw''⟩ := hw'
    subst hw''
    have HBw4 := Lib.hid (HBw3.out.trans (hbq.mono HBw3.out.size))
    have HNw4 := Lib.hid ((hbq.block _ hlt).trans HNw3.out)
    clear hbq hlt c0 y0
    have c2 := cell_of_row _ _ 2 _ _ _ HNw4.out
    simp only [List.getElem?_toArray, List.getElem?_cons_zero, List.getElem?_cons_succ] at c2
    have hlt := (Array.getElem?_eq_some_iff.1 HNw4.out).1
    have y2 := fun x : Later w4.heap.size w4 => later_cell x hlt c2
    go_wp2_with fail
    refine wp_region_later w4.heap.size (by kernel_rfl) (by kernel_rfl) ?_
    repeat (any_goals (first | go_big_quiet_skip | (go_big_quiet_want; go_big_quiet_op; first | go_big_quiet_on | (apply Exists.intro; refine ⟨fun _ => ?_, ?_⟩; (first | (with_reducible refine Calls.later_of ?_ (CC.out _); exact Nat.le_refl _) | (with_reducible refine Calls.later_of ?_ (CF1.out _); exact Nat.le_refl _) | (with_reducible refine Calls.later_of ?_ (K6.out _); exact Nat.le_refl _) | (with_reducible refine Calls.later_of ?_ (K7.out _); exact Nat.le_refl _) | (with_reducible refine Calls.later_of ?_ (K8.out _); exact Nat.le_refl _)); go_big_quiet_on))))
    refine wpQuiet_nil ?_
    intro w5 hw'
    obtain ⟨⟨wz, hbq⟩, hw''⟩ := hw'
    subst hw''
    have HBw5 := Lib.hid (HBw4.out.trans (hbq.mono HBw4.out.size))
    have HNw5 := Lib.hid ((hbq.block _ hlt).trans HNw4.out)
    clear hbq hlt c2 y2
    have c2 := cell_of_row _ _ 2 _ _ _ HNw5.out
    have c3 := cell_of_row _ _ 3 _ _ _ HNw5.out
    have c4 := cell_of_row _ _ 4 _ _ _ HNw5.out
    simp only [List.getElem?_toArray, List.getElem?_cons_zero, List.getElem?_cons_succ] at c2 c3 c4
    have hlt := (Array.getElem?_eq_some_iff.1 HNw5.out).1
    have y2 := fun x : Later w5.heap.size w5 => later_cell x hlt c2
    have y3 := fun x : Later w5.heap.size w5 => later_cell x hlt c3
    have y4 := fun x : Later w5.heap.size w5 => later_cell x hlt c4
    go_wp2_with fail
    refine wp_region_later w5.heap.size (by kernel_rfl) (by kernel_rfl) ?_
    repeat (any_goals (first | go_big_quiet_skip | (go_big_quiet_want; go_big_quiet_op; first | go_big_quiet_on | (apply Exists.intro; refine ⟨fun _ => ?_, ?_⟩; (first | (with_reducible refine Calls.later_of ?_ (CF2.out _); exact Nat.le_refl _) | (with_reducible refine Calls.later_of ?_ (CL.out _); exact Nat.le_refl _) | (with_reducible refine Calls.later_of ?_ (CD.out _); exact Nat.le_refl _) | (with_reducible refine Calls.later_of ?_ (K9.out _); exact Nat.le_refl _) | (with_reducible refine Calls.later_of ?_ (K10.out _); exact Nat.le_refl _) | (with_reducible refine Calls.later_of ?_ (K11.out _); exact Nat.le_refl _)); go_big_quiet_on))))
    refine wpQuiet_nil ?_
    intro w6 hw'
    obtain ⟨⟨wz, hbq⟩, hw''⟩ := hw'
    subst hw''
    have HBw6 := Lib.hid (HBw5.out.trans (hbq.mono HBw5.out.size))
    have HNw6 := Lib.hid ((hbq.block _ hlt).trans HNw5.out)
    clear hbq hlt c2 y2 c3 y3 c4 y4
    go_wp2_with fail
    with_reducible refine (CB.out _).mono ?_
    rintro e w7 ⟨rfl, hb7⟩
    have HBw7 := Lib.hid (HBw6.out.trans (hb7.mono HBw6.out.size))
    clear hb7
    go_wp2_with fail
    go_ret2
    exact ⟨rfl, HBw7.out⟩

set_option maxHeartbeats 6400000 in
set_option maxRecDepth 100000 in
/-- ParseFileSet, of a string that is no file set descriptor's block. -/
theorem r36ParseFileSet_no (s : ByteArray) (loc : Int) (w : World) (hs : s.size ≤ 9223372036854775807) (hi : Vs.isB (by_ s) 256 loc = false) :
    Calls Tryz.prog 35 #[.string s, .int .i64 loc] w fun e w' => e = .returned (.tuple #[.agg (Vs.fsC (Vs.pfsR (by_ s) loc).1), .int .i64 (Vs.pfsR (by_ s) loc).2]) ∧ Below w.heap.size w w' := by
  have CI := Lib.hid (fun W => r36Is_any s 256 loc W hs)
  rw [hi] at CI
  have HR := Lib.hid (show Vs.pfsR (by_ s) loc = (Vs.f0, 10) from if_neg (by rw [hi]; decide))
  have HB := Lib.hid ((Below.refl w.heap.size w).alloc (Nat.le_refl _) (.cells #[.int .i64 0, .int .i64 0, .string ⟨#[]⟩, .int .i64 0, .int .i64 0] 65))
  have HN := Lib.hid (heap_alloc_new w (.cells #[.int .i64 0, .int .i64 0, .string ⟨#[]⟩, .int .i64 0, .int .i64 0] 65))
  rw [HR.out]
  unfold Vs.fsC Vs.f0
  simp only []
  clear hi HR
  go_enter Tryz.func35, Tryz.ntmps35
  go_wp2_with fail
  with_reducible refine (CI.out _).mono ?_
  rintro e w2 ⟨rfl, hb2⟩
  have HB2 := Lib.hid (HB.out.trans (hb2.mono HB.out.size))
  have HN2 := Lib.hid ((hb2.block w.heap.size (by simp)).trans HN.out)
  clear hb2
  have c0 := cell_of_row _ _ 0 _ _ _ HN2.out
  have c1 := cell_of_row _ _ 1 _ _ _ HN2.out
  have c2 := cell_of_row _ _ 2 _ _ _ HN2.out
  have c3 := cell_of_row _ _ 3 _ _ _ HN2.out
  have c4 := cell_of_row _ _ 4 _ _ _ HN2.out
  have hfj := fun j => frozen_of_row _ _ j _ _ HN2.out
  simp only [List.getElem?_toArray, List.getElem?_cons_zero, List.getElem?_cons_succ] at c0 c1 c2 c3 c4
  go_wp2_with fail
  exact bodyPost_ret (v := .tuple #[.agg #[.int .i64 0, .int .i64 0, .string ⟨#[]⟩, .int .i64 0, .int .i64 0], .int .i64 10]) (res_ct rfl _ _ w.heap.size 65 #[.int .i64 0, .int .i64 0, .string ⟨#[]⟩, .int .i64 0, .int .i64 0] (0, 0) _ rfl (Vs.row5 HN2.out _ _ _ _ _) Tryz.underlying65 rfl (by kernel_rfl) _ rfl) rfl ⟨rfl, Vs.below5 HB2.out (Nat.le_refl _) _ _ _ _ _⟩

set_option maxHeartbeats 12800000 in
set_option maxRecDepth 100000 in
/-- ParseFileSet, of a file set descriptor's block. -/
theorem r36ParseFileSet_yes (s : ByteArray) (loc : Int) (w : World) (hs : s.size ≤ 9223372036854775807) (hi : Vs.isB (by_ s) 256 loc = true) :
    Calls Tryz.prog 35 #[.string s, .int .i64 loc] w fun e w' => e = .returned (.tuple #[.agg (Vs.fsC (Vs.pfsR (by_ s) loc).1), .int .i64 (Vs.pfsR (by_ s) loc).2]) ∧ Below w.heap.size w w' := by
  have CI := Lib.hid (fun W => r36Is_any s 256 loc W hs)
  rw [hi] at CI
  have hsz : s.size = 2048 := by have := Vs.isB_len hi; rwa [Vs.by_len] at this
  have CP := Lib.hid (fun W => r36Dstring_any s 112 128 112 128 rfl rfl (by omega) (by omega) W)
  have CR := Lib.hid (fun W => r36ReadStamp_any s 16 16 rfl (by omega) (by omega) W)
  have hpl := Vs.parse_le (Vs.sl (by_ s) 112 128)
  have hsl : (Vs.sl (by_ s) 112 128).length ≤ 128 := by unfold Vs.sl; rw [List.length_take]; omega
  have C1 := Lib.hid (fun W => r31N_any s 44 4 44 4 rfl rfl (by omega) (by omega) (by omega) W)
  have C2 := Lib.hid (fun W => r31N_any s 404 4 404 4 rfl rfl (by omega) (by omega) (by omega) W)
  have C3 := Lib.hid (fun W => r31N_any s 408 2 408 2 rfl rfl (by omega) (by omega) (by omega) W)
  have HE := Lib.hid (show Vs.pfsR (by_ s) loc = if (Vs.readSR (Vs.sl (by_ s) 16 12)).2 = 0 ∧ (Cs.parseR (Vs.sl (by_ s) 112 128)).2 = 0 ∧ Vs.okFs ⟨(Pm.at_ (by_ s) 44 4 : Nat), (Vs.readSR (Vs.sl (by_ s) 16 12)).1.1, bs (Cs.parseR (Vs.sl (by_ s) 112 128)).1, (Pm.at_ (by_ s) 404 4 : Nat), (Pm.at_ (by_ s) 408 2 : Nat)⟩ = true then (⟨(Pm.at_ (by_ s) 44 4 : Nat), (Vs.readSR (Vs.sl (by_ s) 16 12)).1.1, bs (Cs.parseR (Vs.sl (by_ s) 112 128)).1, (Pm.at_ (by_ s) 404 4 : Nat), (Pm.at_ (by_ s) 408 2 : Nat)⟩, 0) else (Vs.f0, 10) from if_pos hi)
  have CS := Lib.hid (fun W => r36Set_any ⟨(Pm.at_ (by_ s) 44 4 : Nat), (Vs.readSR (Vs.sl (by_ s) 16 12)).1.1, bs (Cs.parseR (Vs.sl (by_ s) 112 128)).1, (Pm.at_ (by_ s) 404 4 : Nat), (Pm.at_ (by_ s) 408 2 : Nat)⟩ W (by show (bs (Cs.parseR (Vs.sl (by_ s) 112 128)).1).size ≤ _; rw [Vs.bs_size]; omega))
  generalize Vs.pfsR (by_ s) loc = RR at *
  generalize Cs.parseR (Vs.sl (by_ s) 112 128) = pr at *
  generalize Vs.readSR (Vs.sl (by_ s) 16 12) = sr at *
  generalize ((Pm.at_ (by_ s) 44 4 : Nat) : Int) = a1 at *
  generalize ((Pm.at_ (by_ s) 404 4 : Nat) : Int) = a2 at *
  generalize ((Pm.at_ (by_ s) 408 2 : Nat) : Int) = a3 at *
  obtain ⟨ps, pe⟩ := pr
  obtain ⟨⟨st, sz⟩, se⟩ := sr
  simp only [] at *
  generalize bs ps = q at *
  generalize Vs.okFs ⟨a1, st, q, a2, a3⟩ = ok at *
  have hs1 : (s.size : Int) = 2048 := by omega
  have HB := Lib.hid ((Below.refl w.heap.size w).alloc (Nat.le_refl _) (.cells #[.int .i64 0, .int .i64 0, .string ⟨#[]⟩, .int .i64 0, .int .i64 0] 65))
  have HN := Lib.hid (heap_alloc_new w (.cells #[.int .i64 0, .int .i64 0, .string ⟨#[]⟩, .int .i64 0, .int .i64 0] 65))
  simp only [Vs.fsC] at CS
  clear hpl hsl hi hs hsz
  go_enter Tryz.func35, Tryz.ntmps35
  go_wp2_with fail
  with_reducible refine (CI.out _).mono ?_
  rintro e w2 ⟨rfl, hb2⟩
  have HB2 := Lib.hid (HB.out.trans (hb2.mono HB.out.size))
  have HN2 := Lib.hid ((hb2.block w.heap.size (by simp)).trans HN.out)
  have hs2 : w.heap.size + 1 ≤ w2.heap.size := by have := hb2.size; simpa using this
  clear hb2
  go_wp2_with fail
  with_reducible refine (CR.out _).mono ?_
  rintro e w3 ⟨rfl, hb3⟩
  have HB3 := Lib.hid (HB2.out.trans (hb3.mono HB2.out.size))
  have HN3 := Lib.hid ((hb3.block w.heap.size (by omega)).trans HN2.out)
  have hs3 : w.heap.size + 1 ≤ w3.heap.size := by have := hb3.size; omega
  clear hb3
  go_wp2_with fail
  with_reducible refine (CP.out _).mono ?_
  rintro e w4 ⟨rfl, hb4⟩
  have HB4 := Lib.hid (HB3.out.trans (hb4.mono HB3.out.size))
  have HN4 := Lib.hid ((hb4.block w.heap.size (by omega)).trans HN3.out)
  have hs4 : w.heap.size + 1 ≤ w4.heap.size := by have := hb4.size; omega
  clear hb4
  go_upto_region 6 with (first | (with_reducible refine (C1.out _).mono ?_; rintro e wx ⟨rfl, hw⟩; subst hw) | (with_reducible refine (C2.out _).mono ?_; rintro e wx ⟨rfl, hw⟩; subst hw) | (with_reducible refine (C3.out _).mono ?_; rintro e wx ⟨rfl, hw⟩; subst hw))
  have HB5 := Lib.hid (HB4.out.alloc HB4.out.size (.cells #[.int .i64 a1, .int .i64 st, .string q, .int .i64 a2, .int .i64 a3] 65))
  have HN5 := Lib.hid ((((Below.refl w4.heap.size w4).alloc (Nat.le_refl _) (.cells #[.int .i64 a1, .int .i64 st, .string q, .int .i64 a2, .int .i64 a3] 65)).block w.heap.size (by omega)).trans HN4.out)
  have HO5 := Lib.hid (heap_alloc_new w4 (.cells #[.int .i64 a1, .int .i64 st, .string q, .int .i64 a2, .int .i64 a3] 65))
  have hs5 : (w4.alloc (.cells #[.int .i64 a1, .int .i64 st, .string q, .int .i64 a2, .int .i64 a3] 65)).heap.size = w4.heap.size + 1 := by simp
  generalize w4.alloc (.cells #[.int .i64 a1, .int .i64 st, .string q, .int .i64 a2, .int .i64 a3] 65) = W5 at *
  obtain ⟨o, ho⟩ : ∃ o, o = w4.heap.size := ⟨_, rfl⟩
  have HLD := Lib.hid (show (loadVar 65 ⟨w4.heap.size, 0, none⟩).run Tryz.prog W5 = .ok (.agg #[.int .i64 a1, .int .i64 st, .string q, .int .i64 a2, .int .i64 a3]) W5 from load_row (P := Tryz.prog) (n := 5) 65 _ HO5.out Tryz.underlying65 rfl (by kernel_rfl) (show 0 + 5 ≤ 5 from Nat.le_refl _))
  by_cases hse : se = 0
  case neg =>
    rw [decide_eq_false hse] at *
    have HE2 := Lib.hid (HE.out.trans (if_neg (fun h => hse h.1)))
    clear HE
    have z0 := cell_of_row _ _ 0 _ _ _ HN5.out
    have z1 := cell_of_row _ _ 1 _ _ _ HN5.out
    have z2 := cell_of_row _ _ 2 _ _ _ HN5.out
    have z3 := cell_of_row _ _ 3 _ _ _ HN5.out
    have z4 := cell_of_row _ _ 4 _ _ _ HN5.out
    simp only [List.getElem?_toArray, List.getElem?_cons_zero, List.getElem?_cons_succ] at z0 z1 z2 z3 z4
    have hfj := fun j => frozen_of_row _ _ j _ _ HN5.out
    go_wp2_with fail
    exact bodyPost_ret (v := .tuple #[.agg #[.int .i64 0, .int .i64 0, .string ⟨#[]⟩, .int .i64 0, .int .i64 0], .int .i64 10]) (res_ct rfl _ _ w.heap.size 65 #[.int .i64 0, .int .i64 0, .string ⟨#[]⟩, .int .i64 0, .int .i64 0] (0, 0) _ rfl (Vs.row5 HN5.out _ _ _ _ _) Tryz.underlying65 rfl (by kernel_rfl) _ rfl) rfl ⟨by rw [HE2.out]; rfl, Vs.below5 HB5.out (Nat.le_refl _) _ _ _ _ _⟩

  by_cases hpe : pe = 0
  case neg =>
    rw [decide_eq_false hpe] at *
    subst hse
    have HE2 := Lib.hid (HE.out.trans (if_neg (fun h => hpe h.2.1)))
    clear HE
    have z0 := cell_of_row _ _ 0 _ _ _ HN5.out
    have z1 := cell_of_row _ _ 1 _ _ _ HN5.out
    have z2 := cell_of_row _ _ 2 _ _ _ HN5.out
    have z3 := cell_of_row _ _ 3 _ _ _ HN5.out
    have z4 := cell_of_row _ _ 4 _ _ _ HN5.out
    simp only [List.getElem?_toArray, List.getElem?_cons_zero, List.getElem?_cons_succ] at z0 z1 z2 z3 z4
    have hfj := fun j => frozen_of_row _ _ j _ _ HN5.out
    go_wp2_with fail
    exact bodyPost_ret (v := .tuple #[.agg #[.int .i64 0, .int .i64 0, .string ⟨#[]⟩, .int .i64 0, .int .i64 0], .int .i64 10]) (res_ct rfl _ _ w.heap.size 65 #[.int .i64 0, .int .i64 0, .string ⟨#[]⟩, .int .i64 0, .int .i64 0] (0, 0) _ rfl (Vs.row5 HN5.out _ _ _ _ _) Tryz.underlying65 rfl (by kernel_rfl) _ rfl) rfl ⟨by rw [HE2.out]; rfl, Vs.below5 HB5.out (Nat.le_refl _) _ _ _ _ _⟩

  subst hse hpe
  cases ok with
  | false =>
    go_wp2_with (refine wpList_load_at 65 _ rfl w4.heap.size 0 rfl _ HLD.out (by rfl) ?_)
    with_reducible refine (CS.out _).mono ?_
    rintro e w6 ⟨rfl, hb6⟩
    have HB6 := Lib.hid (HB5.out.trans (hb6.mono HB5.out.size))
    have HN6 := Lib.hid ((hb6.block w.heap.size (by omega)).trans HN5.out)
    clear hb6
    have HE2 := Lib.hid (HE.out.trans (if_neg (fun h => absurd h.2.2 (by decide))))
    clear HE
    have z0 := cell_of_row _ _ 0 _ _ _ HN6.out
    have z1 := cell_of_row _ _ 1 _ _ _ HN6.out
    have z2 := cell_of_row _ _ 2 _ _ _ HN6.out
    have z3 := cell_of_row _ _ 3 _ _ _ HN6.out
    have z4 := cell_of_row _ _ 4 _ _ _ HN6.out
    simp only [List.getElem?_toArray, List.getElem?_cons_zero, List.getElem?_cons_succ] at z0 z1 z2 z3 z4
    have hfj := fun j => frozen_of_row _ _ j _ _ HN6.out
    go_wp2_with fail
    exact bodyPost_ret (v := .tuple #[.agg #[.int .i64 0, .int .i64 0, .string ⟨#[]⟩, .int .i64 0, .int .i64 0], .int .i64 10]) (res_ct rfl _ _ w.heap.size 65 #[.int .i64 0, .int .i64 0, .string ⟨#[]⟩, .int .i64 0, .int .i64 0] (0, 0) _ rfl (Vs.row5 HN6.out _ _ _ _ _) Tryz.underlying65 rfl (by kernel_rfl) _ rfl) rfl ⟨by rw [HE2.out]; rfl, Vs.below5 HB6.out (Nat.le_refl _) _ _ _ _ _⟩

  | true =>
    have HE2 := Lib.hid (HE.out.trans (if_pos ⟨rfl, rfl, rfl⟩))
    clear HE
    go_wp2_with (refine wpList_load_at 65 _ rfl w4.heap.size 0 rfl _ HLD.out (by rfl) ?_)
    with_reducible refine (CS.out _).mono ?_
    rintro e w6 ⟨rfl, hb6⟩
    have HB6 := Lib.hid (HB5.out.trans (hb6.mono HB5.out.size))
    have HN6 := Lib.hid ((hb6.block w.heap.size (by omega)).trans HN5.out)
    have HO6 := Lib.hid ((hb6.block w4.heap.size (by omega)).trans HO5.out)
    clear hb6
    have z0 := cell_of_row _ _ 0 _ _ _ HN6.out
    have z1 := cell_of_row _ _ 1 _ _ _ HN6.out
    have z2 := cell_of_row _ _ 2 _ _ _ HN6.out
    have z3 := cell_of_row _ _ 3 _ _ _ HN6.out
    have z4 := cell_of_row _ _ 4 _ _ _ HN6.out
    simp only [List.getElem?_toArray, List.getElem?_cons_zero, List.getElem?_cons_succ] at z0 z1 z2 z3 z4
    have y0 := cell_of_row _ _ 0 _ _ _ HO6.out
    have y1 := cell_of_row _ _ 1 _ _ _ HO6.out
    have y2 := cell_of_row _ _ 2 _ _ _ HO6.out
    have y3 := cell_of_row _ _ 3 _ _ _ HO6.out
    have y4 := cell_of_row _ _ 4 _ _ _ HO6.out
    simp only [List.getElem?_toArray, List.getElem?_cons_zero, List.getElem?_cons_succ] at y0 y1 y2 y3 y4
    have hfj := fun j => frozen_of_row _ _ j _ _ HN6.out
    go_wp2_with fail
    exact bodyPost_ret (v := .tuple #[.agg #[.int .i64 a1, .int .i64 st, .string q, .int .i64 a2, .int .i64 a3], .int .i64 0]) (res_ct rfl _ _ w.heap.size 65 #[.int .i64 a1, .int .i64 st, .string q, .int .i64 a2, .int .i64 a3] (0, 0) _ rfl (Vs.row5 HN6.out _ _ _ _ _) Tryz.underlying65 rfl (by kernel_rfl) _ rfl) rfl ⟨by rw [HE2.out]; rfl, Vs.below5 HB6.out (Nat.le_refl _) _ _ _ _ _⟩
/-- ParseFileSet. -/
theorem r36ParseFileSet_any (s : ByteArray) (loc : Int) (w : World) (hs : s.size ≤ 9223372036854775807) :
    Calls Tryz.prog 35 #[.string s, .int .i64 loc] w fun e w' => e = .returned (.tuple #[.agg (Vs.fsC (Vs.pfsR (by_ s) loc).1), .int .i64 (Vs.pfsR (by_ s) loc).2]) ∧ Below w.heap.size w w' := by
  cases h : Vs.isB (by_ s) 256 loc with
  | false => exact r36ParseFileSet_no s loc w hs h
  | true => exact r36ParseFileSet_yes s loc w hs h
end Go.Proofs.YthkppbimkjmbnaaGreatDoor

/-
  The walk through VolumeseqFileSets.
-/
namespace Go.Proofs.YthkppbimkjmbnaaGreatDoor
open Go.RowKit Go.Maps
open Vs (bs by_)
namespace Vs
/-- What the law asks of a file set's block. -/
theorem fset_law (x : Fs) (loc : Int) : ((fsetR x loc).2 = 0 ∧ (bs (fsetR x loc).1).size = 2048 ∧ pfsR (by_ (bs (fsetR x loc).1)) loc = (x, 0)) ∨ (((fsetR x loc).2 = 1 ∨ (fsetR x loc).2 = 2) ∧ bs (fsetR x loc).1 = ⟨#[]⟩) := by
  unfold fsetR
  by_cases h1 : word loc = true
  · rw [if_pos h1]
    by_cases h2 : okFs x = true
    · rw [if_pos h2]
      obtain ⟨a, b⟩ := (word_iff loc).1 h1
      obtain ⟨N, rfl⟩ := Int.eq_ofNat_of_zero_le a
      refine .inl ⟨rfl, ?_, ?_⟩
      · rw [bs_size, blk_len (by rw [fs_len h2]; decide)]
      · rw [by_bs, Int.toNat_natCast]
        exact pfs_fset (by omega) h2
    · rw [if_neg h2]
      exact .inr ⟨.inl rfl, rfl⟩
  · rw [if_neg h1]
    exact .inr ⟨.inr rfl, rfl⟩
end Vs

set_option maxHeartbeats 12800000 in
set_option maxRecDepth 100000 in
/-- VolumeseqFileSets. -/
theorem lawFileSets_any (x : Vs.Fs) (loc : Int) (s : ByteArray) (w : World) (m : Int) (hT : Lib.Utf8Tabs 1 2 w) (hM : w.cell? ⟨0, 0, none⟩ = some (.int .i64 m)) :
    Calls Tryz.prog 9 #[.agg (Vs.fsC x), .int .i64 loc, .string s] w fun e w' => e = .returned (.bool true) ∧ Below w.heap.size w w' := by
  have HT := Lib.hid hT
  have HM := Lib.hid hM
  have CA := Lib.hid (fun W h1 h2 => awake_any W m h1 h2)
  have HB0 := Lib.hid ((Below.refl w.heap.size w).alloc (Nat.le_refl _) (.cells (Vs.fsC x) 65))
  have HN0 := Lib.hid (heap_alloc_new w (.cells (Vs.fsC x) 65))
  have CF := Lib.hid (fun W h q => vFileSet_any x loc W h q)
  have CG := Lib.hid (fun W q => r36FileSet_any x loc W q)
  have CP := Lib.hid (fun W h q => vParseFileSet_any s loc W h q)
  have CQ := Lib.hid (fun W q => r36ParseFileSet_any s loc W q)
  have CR := Lib.hid (fun b r W h (q : b.size = 2048) (e : Vs.pfsR (by_ b) loc = r) => (e ▸ vParseFileSet_any b loc W h (by omega) : Calls Tryz.prog 34 #[.string b, .int .i64 loc] W fun e w' => e = .returned (.tuple #[.agg (Vs.fsC r.1), .int .i64 r.2]) ∧ Below W.heap.size W w'))
  have HFC := Lib.hid (Vs.fset_law x loc)
  generalize Vs.fsetR x loc = FR at *
  generalize Vs.pfsR (by_ s) loc = PR at *
  obtain ⟨num, tm, name, rb, rp⟩ := x
  obtain ⟨⟨q0, q1, q2, q3, q4⟩, pe⟩ := PR
  obtain ⟨FL, fe⟩ := FR
  simp only [Vs.fsC] at *
  generalize bs FL = FB at *
  clear hT hM
  go_enter Tryz.func9, Tryz.ntmps9
  go_wp2_with fail
  generalize w.alloc (.cells #[.int .i64 num, .int .i64 tm, .string name, .int .i64 rb, .int .i64 rp] 65) = w0 at *
  with_reducible refine (CA.out _ (Kit.tabs_below HT.out HB0.out) ((HB0.out.cell (p := ⟨0, 0, none⟩) (World.block_lt_of_cell? _ _ HM.out)).trans HM.out)).mono ?_
  rintro e w1 ⟨rfl, hb1⟩
  have HB1 := Lib.hid (HB0.out.trans (hb1.mono HB0.out.size))
  have HN1 := Lib.hid ((hb1.block w.heap.size (Array.getElem?_eq_some_iff.1 HN0.out).1).trans HN0.out)
  clear hb1 HB0 HN0 CA
  have c0 := cell_of_row _ _ 0 _ _ _ HN1.out
  have c1 := cell_of_row _ _ 1 _ _ _ HN1.out
  have c2 := cell_of_row _ _ 2 _ _ _ HN1.out
  have c3 := cell_of_row _ _ 3 _ _ _ HN1.out
  have c4 := cell_of_row _ _ 4 _ _ _ HN1.out
  simp only [List.getElem?_toArray, List.getElem?_cons_zero, List.getElem?_cons_succ] at c0 c1 c2 c3 c4
  by_cases hn : name.size ≤ 300
  case neg =>
    have d1 : decide ((300 : Int) < (name.size : Int)) = true := decide_eq_true (by omega)
    clear hn
    go_wp2_with fail
    go_ret
    exact ⟨rfl, HB1.out⟩
  have d1 : decide ((300 : Int) < (name.size : Int)) = false := decide_eq_false (by omega)
  by_cases hs : s.size ≤ 2100
  case neg =>
    have d2 : decide ((2100 : Int) < (s.size : Int)) = true := decide_eq_true (by omega)
    clear hs
    go_wp2_with fail
    go_ret
    exact ⟨rfl, HB1.out⟩
  have d2 : decide ((2100 : Int) < (s.size : Int)) = false := decide_eq_false (by omega)
  have CF2 := Lib.hid (fun W h => CF.out W h (by omega))
  have CG2 := Lib.hid (fun W => CG.out W (by omega))
  have CP2 := Lib.hid (fun W h => CP.out W h (by omega))
  have CQ2 := Lib.hid (fun W => CQ.out W (by omega))
  have hn2 : (name.size : Int) ≤ 300 := by omega
  have hs2 : (s.size : Int) ≤ 2100 := by omega
  clear CF CG CP CQ hn hs
  go_wp2_with fail
  with_reducible refine (CF2.out _ (Kit.tabs_below HT.out HB1.out)).mono ?_
  rintro e w2 ⟨rfl, hb2⟩
  have HB2 := Lib.hid (HB1.out.trans (hb2.mono HB1.out.size))
  have HN2 := Lib.hid ((hb2.block w.heap.size (Array.getElem?_eq_some_iff.1 HN1.out).1).trans HN1.out)
  clear hb2 HN1 c0 c1 c2 c3 c4
  have c0 := cell_of_row _ _ 0 _ _ _ HN2.out
  have c1 := cell_of_row _ _ 1 _ _ _ HN2.out
  have c2 := cell_of_row _ _ 2 _ _ _ HN2.out
  have c3 := cell_of_row _ _ 3 _ _ _ HN2.out
  have c4 := cell_of_row _ _ 4 _ _ _ HN2.out
  simp only [List.getElem?_toArray, List.getElem?_cons_zero, List.getElem?_cons_succ] at c0 c1 c2 c3 c4
  go_wp2_with fail
  with_reducible refine (CG2.out _).mono ?_
  rintro e w3 ⟨rfl, hb3⟩
  have HB3 := Lib.hid (HB2.out.trans (hb3.mono HB2.out.size))
  have HN3 := Lib.hid ((hb3.block w.heap.size (Array.getElem?_eq_some_iff.1 HN2.out).1).trans HN2.out)
  clear hb3 HN2 c0 c1 c2 c3 c4
  go_wp2_with fail
  with_reducible refine (CP2.out _ (Kit.tabs_below HT.out HB3.out)).mono ?_
  rintro e w4 ⟨rfl, hb4⟩
  have HB4 := Lib.hid (HB3.out.trans (hb4.mono HB3.out.size))
  have HN4 := Lib.hid ((hb4.block w.heap.size (Array.getElem?_eq_some_iff.1 HN3.out).1).trans HN3.out)
  clear hb4 HN3
  go_upto_region 8 with fail
  have HB5 := Lib.hid (HB4.out.alloc HB4.out.size (.cells #[.int .i64 q0, .int .i64 q1, .string q2, .int .i64 q3, .int .i64 q4] 65))
  have HN5 := Lib.hid ((((Below.refl w4.heap.size w4).alloc (Nat.le_refl _) (.cells #[.int .i64 q0, .int .i64 q1, .string q2, .int .i64 q3, .int .i64 q4] 65)).block w.heap.size (Array.getElem?_eq_some_iff.1 HN4.out).1).trans HN4.out)
  have HO5 := Lib.hid (heap_alloc_new w4 (.cells #[.int .i64 q0, .int .i64 q1, .string q2, .int .i64 q3, .int .i64 q4] 65))
  generalize w4.alloc (.cells #[.int .i64 q0, .int .i64 q1, .string q2, .int .i64 q3, .int .i64 q4] 65) = w5 at *
  generalize w4.heap.size = g4 at *
  go_wp2_with fail
  with_reducible refine (CQ2.out _).mono ?_
  rintro e w6 ⟨rfl, hb6⟩
  have HB6 := Lib.hid (HB5.out.trans (hb6.mono HB5.out.size))
  have HN6 := Lib.hid ((hb6.block w.heap.size (Array.getElem?_eq_some_iff.1 HN5.out).1).trans HN5.out)
  have HO6 := Lib.hid ((hb6.block g4 (Array.getElem?_eq_some_iff.1 HO5.out).1).trans HO5.out)
  clear hb6 HN5 HO5
  go_upto_region 9 with fail
  have HB7 := Lib.hid (HB6.out.alloc HB6.out.size (.cells #[.int .i64 q0, .int .i64 q1, .string q2, .int .i64 q3, .int .i64 q4] 65))
  have HN7 := Lib.hid ((((Below.refl w6.heap.size w6).alloc (Nat.le_refl _) (.cells #[.int .i64 q0, .int .i64 q1, .string q2, .int .i64 q3, .int .i64 q4] 65)).block w.heap.size (Array.getElem?_eq_some_iff.1 HN6.out).1).trans HN6.out)
  have HO7 := Lib.hid ((((Below.refl w6.heap.size w6).alloc (Nat.le_refl _) (.cells #[.int .i64 q0, .int .i64 q1, .string q2, .int .i64 q3, .int .i64 q4] 65)).block g4 (Array.getElem?_eq_some_iff.1 HO6.out).1).trans HO6.out)
  have HQ7 := Lib.hid (heap_alloc_new w6 (.cells #[.int .i64 q0, .int .i64 q1, .string q2, .int .i64 q3, .int .i64 q4] 65))
  generalize w6.alloc (.cells #[.int .i64 q0, .int .i64 q1, .string q2, .int .i64 q3, .int .i64 q4] 65) = w7 at *
  generalize w6.heap.size = g6 at *
  clear HN6 HO6
  have y0 := cell_of_row _ _ 0 _ _ _ HO7.out
  have y1 := cell_of_row _ _ 1 _ _ _ HO7.out
  have y2 := cell_of_row _ _ 2 _ _ _ HO7.out
  have y3 := cell_of_row _ _ 3 _ _ _ HO7.out
  have y4 := cell_of_row _ _ 4 _ _ _ HO7.out
  have z0 := cell_of_row _ _ 0 _ _ _ HQ7.out
  have z1 := cell_of_row _ _ 1 _ _ _ HQ7.out
  have z2 := cell_of_row _ _ 2 _ _ _ HQ7.out
  have z3 := cell_of_row _ _ 3 _ _ _ HQ7.out
  have z4 := cell_of_row _ _ 4 _ _ _ HQ7.out
  simp only [List.getElem?_toArray, List.getElem?_cons_zero, List.getElem?_cons_succ] at y0 y1 y2 y3 y4 z0 z1 z2 z3 z4
  rcases HFC.out with ⟨hfe, hsz, hpf⟩ | ⟨hfe, hem⟩
  case inr =>
    have hem2 := hem
    have de : (fe != 0) = true := by rw [bne_iff_ne]; omega
    subst hem
    clear hfe HFC
    go_wp2_with fail
    go_ret
    exact ⟨rfl, HB7.out⟩
  have CR2 := Lib.hid (fun W h => CR.out FB (⟨num, tm, name, rb, rp⟩, 0) W h hsz hpf)
  simp only [] at CR2
  have hszi : (FB.size : Int) = 2048 := by omega
  subst hfe
  clear hsz hpf CR HFC
  go_wp2_with fail
  with_reducible refine (CR2.out _ (Kit.tabs_below HT.out HB7.out)).mono ?_
  rintro e w8 ⟨rfl, hb8⟩
  have HB8 := Lib.hid (HB7.out.trans (hb8.mono HB7.out.size))
  have HN8 := Lib.hid ((hb8.block w.heap.size (Array.getElem?_eq_some_iff.1 HN7.out).1).trans HN7.out)
  clear hb8 HN7 HO7 HQ7 y0 y1 y2 y3 y4 z0 z1 z2 z3 z4
  go_upto_region 14 with fail
  have HB9 := Lib.hid (HB8.out.alloc HB8.out.size (.cells #[.int .i64 num, .int .i64 tm, .string name, .int .i64 rb, .int .i64 rp] 65))
  have HN9 := Lib.hid ((((Below.refl w8.heap.size w8).alloc (Nat.le_refl _) (.cells #[.int .i64 num, .int .i64 tm, .string name, .int .i64 rb, .int .i64 rp] 65)).block w.heap.size (Array.getElem?_eq_some_iff.1 HN8.out).1).trans HN8.out)
  have HO9 := Lib.hid (heap_alloc_new w8 (.cells #[.int .i64 num, .int .i64 tm, .string name, .int .i64 rb, .int .i64 rp] 65))
  generalize w8.alloc (.cells #[.int .i64 num, .int .i64 tm, .string name, .int .i64 rb, .int .i64 rp] 65) = w9 at *
  generalize w8.heap.size = g8 at *
  have y0 := cell_of_row _ _ 0 _ _ _ HN9.out
  have y1 := cell_of_row _ _ 1 _ _ _ HN9.out
  have y2 := cell_of_row _ _ 2 _ _ _ HN9.out
  have y3 := cell_of_row _ _ 3 _ _ _ HN9.out
  have y4 := cell_of_row _ _ 4 _ _ _ HN9.out
  have z0 := cell_of_row _ _ 0 _ _ _ HO9.out
  have z1 := cell_of_row _ _ 1 _ _ _ HO9.out
  have z2 := cell_of_row _ _ 2 _ _ _ HO9.out
  have z3 := cell_of_row _ _ 3 _ _ _ HO9.out
  have z4 := cell_of_row _ _ 4 _ _ _ HO9.out
  simp only [List.getElem?_toArray, List.getElem?_cons_zero, List.getElem?_cons_succ] at y0 y1 y2 y3 y4 z0 z1 z2 z3 z4
  go_wp2_with fail
  go_ret
  exact ⟨rfl, HB9.out⟩
end Go.Proofs.YthkppbimkjmbnaaGreatDoor

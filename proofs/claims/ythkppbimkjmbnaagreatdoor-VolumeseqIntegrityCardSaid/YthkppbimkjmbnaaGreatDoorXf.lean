/-
  The walks through the reference's Info and Integrity.
-/
import Derived.Test.YthkppbimkjmbnaaGreatDoorXe
import Derived.Test.YthkppbimkjmbnaaGreatDoorXa
import Derived.Test.YthkppbimkjmbnaaGreatDoorZm
import Derived.Test.YthkppbimkjmbnaaGreatDoorZz
import Derived.Test.YthkppbimkjmbnaaGreatDoorZf
import Derived.Test.YthkppbimkjmbnaaGreatDoorXb
import Derived.Test.YthkppbimkjmbnaaGreatDoorXd
namespace Go.Proofs.YthkppbimkjmbnaaGreatDoor
set_option linter.unusedVariables false
open Go.RowKit
open Vs (bs by_)
namespace Vs
theorem okIn_ref (i : In) : okIn i = (isTime i.time && (word i.unique && (decide (i.free.length = i.size.length) && (decide (i.free.length ≤ 8) && (i.free.all word && (i.size.all word && (word i.files && word i.folders))))))) := by
  rw [Bool.eq_iff_iff, okIn_iff]
  simp only [Bool.and_eq_true, decide_eq_true_eq, List.all_eq_true]
  constructor
  · rintro ⟨a1, a2, a3, a4, a5, a6, a7, a8⟩
    exact ⟨a1, a8, a2, a3, a4, a5, a6, a7⟩
  · rintro ⟨a1, a8, a2, a3, a4, a5, a6, a7⟩
    exact ⟨a1, a2, a3, a4, a5, a6, a7, a8⟩
end Vs

set_option maxHeartbeats 12800000 in
set_option maxRecDepth 100000 in
/-- masterdiscref36.Info. -/
theorem r36Info_any (i : Vs.In) (vf vz : Value) (w : World) (hf : Kit.Row w vf (Kit.izs i.free)) (hz : Kit.Row w vz (Kit.izs i.size)) (hlf : i.free.length ≤ 100000) (hlz : i.size.length ≤ 100000) :
    Calls Tryz.prog 112 #[.agg (Vs.inC i vf vz)] w fun e w' => e = .returned (.bool (Vs.okIn i)) ∧ Below w.heap.size w w' := by
  have HOK := Lib.hid (Vs.okIn_ref i)
  have CT := Lib.hid (fun W => r36Time_any i.time W)
  have CU := Lib.hid (fun W => r36Word_any i.unique W)
  have C1 := Lib.hid (fun W => r36Word_any i.files W)
  have C2 := Lib.hid (fun W => r36Word_any i.folders W)
  have hb1 := (Below.refl w.heap.size w).alloc (Nat.le_refl _) (.cells (Vs.inC i vf vz) 71)
  have HN1 := Lib.hid (heap_alloc_new w (.cells (Vs.inC i vf vz) 71))
  have CF := Lib.hid (r36Words_any vf i.free _ (hf.below hb1))
  have CZ := Lib.hid (r36Words_any vz i.size _ (hz.below hb1))
  have HB1 := Lib.hid hb1
  obtain ⟨Af, cf, rfl, hcf, hmf, _⟩ := hf
  obtain ⟨Az, cz, rfl, hcz, hmz, _⟩ := hz
  simp only [Kit.izs_length] at *
  obtain ⟨tm, cl, u, fr, sz, fi, fo⟩ := i
  unfold Vs.inC at *
  simp only [] at *
  generalize Vs.okIn ⟨tm, cl, u, fr, sz, fi, fo⟩ = R at *
  clear hb1 hcf hcz hmf hmz
  go_enter Tryz.func112, Tryz.ntmps112
  go_upto_region 1 with fail
  generalize w.alloc (.cells #[.int .i64 tm, .bool cl, .int .i64 u, .slice Af fr.length cf, .slice Az sz.length cz, .int .i64 fi, .int .i64 fo] 71) = w1 at *
  have c0 := cell_of_row _ _ 0 _ _ _ HN1.out
  have c2 := cell_of_row _ _ 2 _ _ _ HN1.out
  have c3 := cell_of_row _ _ 3 _ _ _ HN1.out
  have c4 := cell_of_row _ _ 4 _ _ _ HN1.out
  have c5 := cell_of_row _ _ 5 _ _ _ HN1.out
  have c6 := cell_of_row _ _ 6 _ _ _ HN1.out
  simp only [List.getElem?_toArray, List.getElem?_cons_zero, List.getElem?_cons_succ] at c0 c2 c3 c4 c5 c6
  generalize Vs.isTime tm = b1 at *
  generalize Vs.word u = b2 at *
  generalize fr.all Vs.word = b5 at *
  generalize sz.all Vs.word = b6 at *
  generalize Vs.word fi = b7 at *
  generalize Vs.word fo = b8 at *
  generalize fr.length = nf at *
  generalize sz.length = nz at *
  cases b1 with
  | false =>
    rw [Bool.false_and] at HOK
    go_wp2_with (first | (with_reducible refine (CT.out _).mono ?_; rintro e wx ⟨rfl, hw⟩; subst hw) | (with_reducible refine (CU.out _).mono ?_; rintro e wx ⟨rfl, hw⟩; subst hw) | (with_reducible refine CF.out.mono ?_; rintro e wx ⟨rfl, hw⟩; subst hw) | (with_reducible refine CZ.out.mono ?_; rintro e wx ⟨rfl, hw⟩; subst hw) | (with_reducible refine (C1.out _).mono ?_; rintro e wx ⟨rfl, hw⟩; subst hw) | (with_reducible refine (C2.out _).mono ?_; rintro e wx ⟨rfl, hw⟩; subst hw))
    go_ret
    exact ⟨by first | (rw [HOK.out]; rfl) | rw [HOK.out], HB1.out⟩
  | true =>
  rw [Bool.true_and] at HOK
  cases b2 with
  | false =>
    rw [Bool.false_and] at HOK
    go_wp2_with (first | (with_reducible refine (CT.out _).mono ?_; rintro e wx ⟨rfl, hw⟩; subst hw) | (with_reducible refine (CU.out _).mono ?_; rintro e wx ⟨rfl, hw⟩; subst hw) | (with_reducible refine CF.out.mono ?_; rintro e wx ⟨rfl, hw⟩; subst hw) | (with_reducible refine CZ.out.mono ?_; rintro e wx ⟨rfl, hw⟩; subst hw) | (with_reducible refine (C1.out _).mono ?_; rintro e wx ⟨rfl, hw⟩; subst hw) | (with_reducible refine (C2.out _).mono ?_; rintro e wx ⟨rfl, hw⟩; subst hw))
    go_ret
    exact ⟨by first | (rw [HOK.out]; rfl) | rw [HOK.out], HB1.out⟩
  | true =>
  rw [Bool.true_and] at HOK
  by_cases h1 : nf = nz
  case neg =>
    have e1 : ((nf : Int) == (nz : Int)) = false := by first | (rw [beq_eq_false_iff_ne]; omega) | exact decide_eq_false (by omega)
    rw [decide_eq_false h1, Bool.false_and] at HOK
    clear h1
    go_wp2_with (first | (with_reducible refine (CT.out _).mono ?_; rintro e wx ⟨rfl, hw⟩; subst hw) | (with_reducible refine (CU.out _).mono ?_; rintro e wx ⟨rfl, hw⟩; subst hw) | (with_reducible refine CF.out.mono ?_; rintro e wx ⟨rfl, hw⟩; subst hw) | (with_reducible refine CZ.out.mono ?_; rintro e wx ⟨rfl, hw⟩; subst hw) | (with_reducible refine (C1.out _).mono ?_; rintro e wx ⟨rfl, hw⟩; subst hw) | (with_reducible refine (C2.out _).mono ?_; rintro e wx ⟨rfl, hw⟩; subst hw))
    go_ret
    exact ⟨by first | (rw [HOK.out]; rfl) | rw [HOK.out], HB1.out⟩
  have e_h1 : ((nf : Int) == (nz : Int)) = true := by first | (rw [beq_iff_eq]; omega) | exact decide_eq_true (by omega)
  rw [decide_eq_true h1, Bool.true_and] at HOK
  clear h1
  by_cases h2 : nf ≤ 8
  case neg =>
    have e1 : decide ((nf : Int) ≤ 8) = false := by first | (rw [beq_eq_false_iff_ne]; omega) | exact decide_eq_false (by omega)
    rw [decide_eq_false h2, Bool.false_and] at HOK
    clear h2
    go_wp2_with (first | (with_reducible refine (CT.out _).mono ?_; rintro e wx ⟨rfl, hw⟩; subst hw) | (with_reducible refine (CU.out _).mono ?_; rintro e wx ⟨rfl, hw⟩; subst hw) | (with_reducible refine CF.out.mono ?_; rintro e wx ⟨rfl, hw⟩; subst hw) | (with_reducible refine CZ.out.mono ?_; rintro e wx ⟨rfl, hw⟩; subst hw) | (with_reducible refine (C1.out _).mono ?_; rintro e wx ⟨rfl, hw⟩; subst hw) | (with_reducible refine (C2.out _).mono ?_; rintro e wx ⟨rfl, hw⟩; subst hw))
    go_ret
    exact ⟨by first | (rw [HOK.out]; rfl) | rw [HOK.out], HB1.out⟩
  have e_h2 : decide ((nf : Int) ≤ 8) = true := by first | (rw [beq_iff_eq]; omega) | exact decide_eq_true (by omega)
  rw [decide_eq_true h2, Bool.true_and] at HOK
  clear h2
  cases b5 with
  | false =>
    rw [Bool.false_and] at HOK
    go_wp2_with (first | (with_reducible refine (CT.out _).mono ?_; rintro e wx ⟨rfl, hw⟩; subst hw) | (with_reducible refine (CU.out _).mono ?_; rintro e wx ⟨rfl, hw⟩; subst hw) | (with_reducible refine CF.out.mono ?_; rintro e wx ⟨rfl, hw⟩; subst hw) | (with_reducible refine CZ.out.mono ?_; rintro e wx ⟨rfl, hw⟩; subst hw) | (with_reducible refine (C1.out _).mono ?_; rintro e wx ⟨rfl, hw⟩; subst hw) | (with_reducible refine (C2.out _).mono ?_; rintro e wx ⟨rfl, hw⟩; subst hw))
    go_ret
    exact ⟨by first | (rw [HOK.out]; rfl) | rw [HOK.out], HB1.out⟩
  | true =>
  rw [Bool.true_and] at HOK
  cases b6 with
  | false =>
    rw [Bool.false_and] at HOK
    go_wp2_with (first | (with_reducible refine (CT.out _).mono ?_; rintro e wx ⟨rfl, hw⟩; subst hw) | (with_reducible refine (CU.out _).mono ?_; rintro e wx ⟨rfl, hw⟩; subst hw) | (with_reducible refine CF.out.mono ?_; rintro e wx ⟨rfl, hw⟩; subst hw) | (with_reducible refine CZ.out.mono ?_; rintro e wx ⟨rfl, hw⟩; subst hw) | (with_reducible refine (C1.out _).mono ?_; rintro e wx ⟨rfl, hw⟩; subst hw) | (with_reducible refine (C2.out _).mono ?_; rintro e wx ⟨rfl, hw⟩; subst hw))
    go_ret
    exact ⟨by first | (rw [HOK.out]; rfl) | rw [HOK.out], HB1.out⟩
  | true =>
  rw [Bool.true_and] at HOK
  cases b7 with
  | false =>
    rw [Bool.false_and] at HOK
    go_wp2_with (first | (with_reducible refine (CT.out _).mono ?_; rintro e wx ⟨rfl, hw⟩; subst hw) | (with_reducible refine (CU.out _).mono ?_; rintro e wx ⟨rfl, hw⟩; subst hw) | (with_reducible refine CF.out.mono ?_; rintro e wx ⟨rfl, hw⟩; subst hw) | (with_reducible refine CZ.out.mono ?_; rintro e wx ⟨rfl, hw⟩; subst hw) | (with_reducible refine (C1.out _).mono ?_; rintro e wx ⟨rfl, hw⟩; subst hw) | (with_reducible refine (C2.out _).mono ?_; rintro e wx ⟨rfl, hw⟩; subst hw))
    go_ret
    exact ⟨by first | (rw [HOK.out]; rfl) | rw [HOK.out], HB1.out⟩
  | true =>
    rw [Bool.true_and] at HOK
    go_wp2_with (first | (with_reducible refine (CT.out _).mono ?_; rintro e wx ⟨rfl, hw⟩; subst hw) | (with_reducible refine (CU.out _).mono ?_; rintro e wx ⟨rfl, hw⟩; subst hw) | (with_reducible refine CF.out.mono ?_; rintro e wx ⟨rfl, hw⟩; subst hw) | (with_reducible refine CZ.out.mono ?_; rintro e wx ⟨rfl, hw⟩; subst hw) | (with_reducible refine (C1.out _).mono ?_; rintro e wx ⟨rfl, hw⟩; subst hw) | (with_reducible refine (C2.out _).mono ?_; rintro e wx ⟨rfl, hw⟩; subst hw))
    go_ret
    exact ⟨by first | (rw [HOK.out]; rfl) | rw [HOK.out], HB1.out⟩

set_option maxHeartbeats 12800000 in
set_option maxRecDepth 100000 in
/-- masterdiscref36.Integrity. -/
theorem r36Integrity_any (i : Vs.In) (vf vz : Value) (loc : Int) (w : World) (hf : Kit.Row w vf (Kit.izs i.free)) (hz : Kit.Row w vz (Kit.izs i.size)) (hlf : i.free.length ≤ 1000) (hlz : i.size.length ≤ 1000) :
    Calls Tryz.prog 37 #[.agg (Vs.inC i vf vz), .int .i64 loc] w fun e w' => e = .returned (.tuple #[.string (bs (Vs.integR i loc).1), .int .i64 (Vs.integR i loc).2]) ∧ Below w.heap.size w w' := by
  have HR := Lib.hid (show Vs.integR i loc = if Vs.word loc = true then (if Vs.okIn i = true then (Vs.blk 9 1 loc.toNat (Vs.inL i), 0) else ([], 1)) else ([], 2) from rfl)
  have CW := Lib.hid (fun W => r36Word_any loc W)
  have CI := Lib.hid (fun W h1 h2 => r36Info_any i vf vz W h1 h2 (by omega) (by omega))
  have HF := Lib.hid hf
  have HZ := Lib.hid hz
  have HB1 := Lib.hid ((Below.refl w.heap.size w).alloc (Nat.le_refl _) (.cells (Vs.inC i vf vz) 71))
  have HN1 := Lib.hid (heap_alloc_new w (.cells (Vs.inC i vf vz) 71))
  have HLD := Lib.hid (show ∀ W : World, W.heap[w.heap.size]? = some (.cells (Vs.inC i vf vz) 71 (0, 0)) → (loadVar 71 ⟨w.heap.size, 0, none⟩).run Tryz.prog W = .ok (.agg (Vs.inC i vf vz)) W from fun W h => load_row (P := Tryz.prog) (n := 7) (cs := [.int .i64 i.time, .bool i.closed, .int .i64 i.unique, vf, vz, .int .i64 i.files, .int .i64 i.folders]) 71 _ h Tryz.underlying71 rfl (by kernel_rfl) (show 0 + 7 ≤ 7 by decide))
  obtain ⟨Z, hZ⟩ : ∃ Z, Z = Vs.inC i vf vz := ⟨_, rfl⟩
  have HZD := Lib.hid hZ
  rw [← hZ] at CI HB1 HN1 HLD ⊢
  clear hZ hf hz
  cases hwl : Vs.word loc with
  | false =>
    rw [hwl] at CW
    have HR2 := Lib.hid (HR.out.trans (if_neg (by rw [hwl]; decide)))
    rw [HR2.out]
    clear HR HR2 hwl
    go_enter Tryz.func37, Tryz.ntmps37
    go_wp2_with (with_reducible refine (CW.out _).mono ?_; rintro e wx ⟨rfl, hw⟩; subst hw)
    go_ret2
    exact ⟨rfl, HB1.out⟩
  | true =>
  rw [hwl] at CW
  have HR1 := Lib.hid (HR.out.trans (if_pos hwl))
  cases hok : Vs.okIn i with
  | false =>
    rw [hok] at CI
    have HR2 := Lib.hid (HR1.out.trans (if_neg (by rw [hok]; decide)))
    rw [HR2.out]
    clear HR HR1 HR2 hwl hok
    go_enter Tryz.func37, Tryz.ntmps37
    go_wp2_with (first | (with_reducible refine (CW.out _).mono ?_; rintro e wx ⟨rfl, hw⟩; subst hw) | (refine wpList_load_at 71 _ rfl w.heap.size 0 rfl _ (HLD.out _ HN1.out) (by rfl) ?_))
    with_reducible refine (CI.out _ (HF.out.below HB1.out) (HZ.out.below HB1.out)).mono ?_
    rintro e w2 ⟨rfl, hb2⟩
    have HB2 := Lib.hid (HB1.out.trans (hb2.mono HB1.out.size))
    clear hb2
    go_wp2_with fail
    go_ret2
    exact ⟨rfl, HB2.out⟩
  | true =>
  rw [hok] at CI
  have HR2 := Lib.hid (HR1.out.trans (if_pos hok))
  obtain ⟨k1, k2, k3, k4, k5, k6, k7, k8⟩ := (Vs.okIn_iff i).1 hok
  obtain ⟨k61, k62⟩ := (Vs.word_iff _).1 k6
  obtain ⟨k71, k72⟩ := (Vs.word_iff _).1 k7
  obtain ⟨k81, k82⟩ := (Vs.word_iff _).1 k8
  obtain ⟨kw1, kw2⟩ := (Vs.word_iff loc).1 hwl
  obtain ⟨N, rfl⟩ := Int.eq_ofNat_of_zero_le kw1
  rw [HR2.out, Int.toNat_natCast]
  have lst := Vs.stampR_len k1
  have hil := Vs.in_len hok
  obtain ⟨B0, hB0⟩ : ∃ B : List UInt8, B = Vs.z 64 := ⟨_, rfl⟩
  have lB0 : B0.length = 64 := by rw [hB0]; exact Vs.z_len _
  obtain ⟨P0, hP0⟩ : ∃ P : List UInt8, P = Vs.stampR i.time := ⟨_, rfl⟩
  have lP0 : P0.length = 12 := by rw [hP0]; exact lst
  obtain ⟨B1, hB1⟩ : ∃ B : List UInt8, B = Vs.putL B0 16 P0 := ⟨_, rfl⟩
  have lB1 : B1.length = 64 := by rw [hB1, Vs.putL_len (by omega)]; exact lB0
  have K0 := Lib.hid (fun W => r36PutL_any B0 P0 16 16 rfl B1 hB1 (by decide) (by omega) (by omega) W)
  obtain ⟨P1, hP1⟩ : ∃ P : List UInt8, P = Vs.n4 (if i.closed = true then 1 else 0) := ⟨_, rfl⟩
  have lP1 : P1.length = 4 := by rw [hP1]; exact Vs.n4_len _
  obtain ⟨B2, hB2⟩ : ∃ B : List UInt8, B = Vs.putL B1 28 P1 := ⟨_, rfl⟩
  have lB2 : B2.length = 64 := by rw [hB2, Vs.putL_len (by omega)]; exact lB1
  have K1 := Lib.hid (fun W => r36NumL_any B1 P1 28 4 28 (if i.closed = true then 1 else 0) 4 rfl rfl hP1 B2 hB2 (by decide) (by omega) (by omega) (by decide) (by first | omega | (split <;> omega)) (by first | omega | (split <;> omega)) W)
  obtain ⟨P2, hP2⟩ : ∃ P : List UInt8, P = Pm.le 8 i.unique.toNat := ⟨_, rfl⟩
  have lP2 : P2.length = 8 := by rw [hP2]; exact Pm.le_len _ _
  obtain ⟨B3, hB3⟩ : ∃ B : List UInt8, B = Vs.putL B2 40 P2 := ⟨_, rfl⟩
  have lB3 : B3.length = 64 := by rw [hB3, Vs.putL_len (by omega)]; exact lB2
  have K2 := Lib.hid (fun W => r36NumL_any B2 P2 40 8 40 i.unique 8 rfl rfl hP2 B3 hB3 (by decide) (by omega) (by omega) (by decide) (by first | omega | (split <;> omega)) (by first | omega | (split <;> omega)) W)
  obtain ⟨P3, hP3⟩ : ∃ P : List UInt8, P = Vs.n4 i.free.length := ⟨_, rfl⟩
  have lP3 : P3.length = 4 := by rw [hP3]; exact Vs.n4_len _
  obtain ⟨B4, hB4⟩ : ∃ B : List UInt8, B = Vs.putL B3 72 P3 := ⟨_, rfl⟩
  have lB4 : B4.length = 64 := by rw [hB4, Vs.putL_len (by omega)]; exact lB3
  have K3 := Lib.hid (fun W => r36NumL_any B3 P3 72 4 72 i.free.length 4 rfl rfl hP3 B4 hB4 (by decide) (by omega) (by omega) (by decide) (by first | omega | (split <;> omega)) (by first | omega | (split <;> omega)) W)
  obtain ⟨P4, hP4⟩ : ∃ P : List UInt8, P = Vs.n4 46 := ⟨_, rfl⟩
  have lP4 : P4.length = 4 := by rw [hP4]; exact Vs.n4_len _
  obtain ⟨B5, hB5⟩ : ∃ B : List UInt8, B = Vs.putL B4 76 P4 := ⟨_, rfl⟩
  have lB5 : B5.length = 64 := by rw [hB5, Vs.putL_len (by omega)]; exact lB4
  have K4 := Lib.hid (fun W => r36NumL_any B4 P4 76 4 76 46 4 rfl rfl hP4 B5 hB5 (by decide) (by omega) (by omega) (by decide) (by first | omega | (split <;> omega)) (by first | omega | (split <;> omega)) W)
  have HHD := Lib.hid (show B5 = Vs.stampR i.time ++ (Vs.n4 (if i.closed = true then 1 else 0) ++ (Vs.z 8 ++ (Pm.le 8 i.unique.toNat ++ (Vs.z 24 ++ (Vs.n4 i.free.length ++ Vs.n4 46))))) by
    rw [hB5, hB4, hB3, hB2, hB1, hB0, hP0, hP1, hP2, hP3, hP4, ← Vs.inhead_puts i lst]
    rfl)
  have HWF := Lib.hid (fun W h => r36wordsL_any vf i.free W h k4 (by omega))
  have HWZ := Lib.hid (fun W h => r36wordsL_any vz i.size W h k5 (by omega))
  have HTL := Lib.hid (show bs B5 ++ bs (Vs.w4 i.free) ++ bs (Vs.w4 i.size) ++ bs Vs.implL ++ bs (Vs.n4 i.files) ++ bs (Vs.n4 i.folders) ++ bs (Vs.n2 513) ++ bs (Vs.n2 513) ++ bs (Vs.n2 513) = bs (Vs.inL i) by
    simp only [Vs.bs_app]
    refine congrArg bs ?_
    rw [HHD.out]
    unfold Vs.inL Vs.tailI
    simp only [List.append_assoc, Vs.w4_app])
  have CZ := Lib.hid (fun W => vZeros_any 64 (by decide) (by decide) W)
  rw [show (⟨(List.replicate (64 : Int).toNat 0).toArray⟩ : ByteArray) = bs (Vs.z 64) from rfl, ← hB0] at CZ
  have CT := Lib.hid (fun W => r36Stamp_any i.time W k1)
  rw [← hP0] at CT
  have CE := Lib.hid (fun W => (show Calls Tryz.prog 105 #[.string ⟨#[42, 109, 97, 115, 116, 101, 114, 100, 105, 115, 99]⟩, .string ⟨#[]⟩] W fun e w' => e = .returned (.string (bs Vs.implL)) ∧ Below W.heap.size W w' from r36Entity_any _ _ W (by decide) (by decide)))
  have CFi := Lib.hid (fun W => show Calls Tryz.prog 80 #[.int .i64 i.files, .int .i64 4] W fun e w' => e = .returned (.string (bs (Vs.n4 i.files))) ∧ Below W.heap.size W w' from r01_any i.files.toNat 4 i.files 4 (by omega) rfl (by omega) (by omega) W)
  have CFo := Lib.hid (fun W => show Calls Tryz.prog 80 #[.int .i64 i.folders, .int .i64 4] W fun e w' => e = .returned (.string (bs (Vs.n4 i.folders))) ∧ Below W.heap.size W w' from r01_any i.folders.toNat 4 i.folders 4 (by omega) rfl (by omega) (by omega) W)
  have CRv := Lib.hid (fun W => show Calls Tryz.prog 80 #[.int .i64 513, .int .i64 2] W fun e w' => e = .returned (.string (bs (Vs.n2 513))) ∧ Below W.heap.size W w' from r01_any 513 2 513 2 rfl rfl (by omega) (by omega) W)
  have CB := Lib.hid (fun W => r31Block_any 9 1 (N : Int) (bs (Vs.inL i)) W (by rw [Vs.bs_size]; omega))
  have HBB := Lib.hid (show Vs.blockR 9 1 (N : Int) (Vs.inL i) = (Vs.blk 9 1 N (Vs.inL i), 0) from Vs.blockR_ok (id := 9) (ser := 1) (by decide) (by decide) (by omega) (by omega))
  rw [Vs.by_bs, HBB.out] at CB
  simp only [] at CB
  have z0 : (bs B5).size ≤ 64 := by rw [Vs.bs_size]; omega
  have z1 : (bs (Vs.w4 i.free)).size ≤ 64 := by rw [Vs.bs_size, Vs.w4_len]; omega
  have z2 : (bs (Vs.w4 i.size)).size ≤ 64 := by rw [Vs.bs_size, Vs.w4_len]; omega
  have z3 : (bs Vs.implL).size ≤ 32 := by rw [Vs.bs_size, Vs.impl_len]; decide
  have z4 : (bs (Vs.n4 i.files)).size ≤ 4 := by rw [Vs.bs_size, Vs.n4_len]; decide
  have z5 : (bs (Vs.n4 i.folders)).size ≤ 4 := by rw [Vs.bs_size, Vs.n4_len]; decide
  have z6 : (bs (Vs.n2 513)).size ≤ 2 := by rw [Vs.bs_size, Vs.n2_len]; decide
  obtain ⟨Af, cf, rfl, hcf, hmf, _⟩ := HF.out
  obtain ⟨Az, cz, rfl, hcz, hmz, _⟩ := HZ.out
  simp only [Kit.izs_length] at *
  clear hB0 hB1 hB2 hB3 hB4 hB5 lB0 lB1 lB2 lB3 lB4 lB5 lP0 lP1 lP2 lP3 lP4 hP0 hP1 hP2 hP3 hP4 HR HR1 HR2 HHD HBB hwl hok hil lst k1 k2 k3 k4 k5 k6 k7 k8 k61 k62 k71 k72 k81 k82 kw1 kw2 hcf hmf hcz hmz hlf hlz
  obtain ⟨tm, cl, u, fr, sz, fi, fo⟩ := i
  simp only [] at *
  generalize bs B0 = b0 at *
  generalize bs B1 = b1 at *
  generalize bs B2 = b2 at *
  generalize bs B3 = b3 at *
  generalize bs B4 = b4 at *
  generalize bs B5 = b5 at *
  generalize bs P0 = p0 at *
  generalize bs (Vs.w4 fr) = q1 at *
  generalize bs (Vs.w4 sz) = q2 at *
  generalize bs Vs.implL = q3 at *
  generalize bs (Vs.n4 fi) = q4 at *
  generalize bs (Vs.n4 fo) = q5 at *
  generalize bs (Vs.n2 513) = q6 at *
  generalize bs (Vs.inL ⟨tm, cl, u, fr, sz, fi, fo⟩) = fb at *
  generalize bs (Vs.blk 9 1 N (Vs.inL ⟨tm, cl, u, fr, sz, fi, fo⟩)) = bl at *
  unfold Vs.inC at *
  simp only [] at *
  go_enter Tryz.func37, Tryz.ntmps37
  go_wp2_with (first | (with_reducible refine (CW.out _).mono ?_; rintro e wx ⟨rfl, hw⟩; subst hw) | (refine wpList_load_at 71 _ rfl w.heap.size 0 rfl _ (HLD.out _ HN1.out) (by rfl) ?_))
  with_reducible refine (CI.out _ (HF.out.below HB1.out) (HZ.out.below HB1.out)).mono ?_
  rintro e w2 ⟨rfl, hb2⟩
  have HB2 := Lib.hid (HB1.out.trans (hb2.mono HB1.out.size))
  have HN2 := Lib.hid ((hb2.block w.heap.size (Array.getElem?_eq_some_iff.1 HN1.out).1).trans HN1.out)
  clear hb2 HB1 HN1 CW CI HLD
  rw [HZD.out] at HN2
  clear HZD
  have c1 := cell_of_row _ _ 1 _ _ _ HN2.out
  simp only [List.getElem?_toArray, List.getElem?_cons_zero, List.getElem?_cons_succ] at c1
  go_upto_if 16 with fail
  go_cut [6] (fun s6 wx => s6 = .int .i64 (if cl = true then 1 else 0) ∧ w2 = wx)
  case first =>
    cases cl with
    | false =>
      go_wp2_with fail
      go_meet
      exact ⟨rfl, rfl⟩
    | true =>
      go_wp2_with fail
      go_meet
      exact ⟨rfl, rfl⟩
  case rest =>
    obtain ⟨rfl, rfl⟩ := hcut
    clear c1
    generalize (if cl = true then (1 : Int) else 0) = ci at *
    go_upto_region 8 with fail
    have hlt := (Array.getElem?_eq_some_iff.1 HN2.out).1
    have d0 := cell_of_row _ _ 0 _ _ _ HN2.out
    simp only [List.getElem?_toArray, List.getElem?_cons_zero] at d0
    have y0 := fun x : Later w2.heap.size w2 => later_cell x hlt d0
    refine wp_region_later w2.heap.size (by kernel_rfl) (by kernel_rfl) ?_
    repeat (any_goals (first | go_big_quiet_skip | (go_big_quiet_want; go_big_quiet_op; first | go_big_quiet_on | (apply Exists.intro; refine ⟨fun _ => ?_, ?_⟩; (first | (with_reducible refine Calls.later_of ?_ (CZ.out _); exact Nat.le_refl _) | (with_reducible refine Calls.later_of ?_ (CT.out _); exact Nat.le_refl _) | (with_reducible refine Calls.later_of ?_ (K0.out _); exact Nat.le_refl _)); go_big_quiet_on))))
    refine wpQuiet_nil ?_
    intro w3 hw'
    obtain ⟨⟨wz, hbq⟩, hw''⟩ := hw'
    subst hw''
    have HBw3 := Lib.hid (HB2.out.trans (hbq.mono HB2.out.size))
    have HNw3 := Lib.hid ((hbq.block _ hlt).trans HN2.out)
    clear hbq hlt d0 y0
    go_upto_region 9 with fail
    have hlt := (Array.getElem?_eq_some_iff.1 HNw3.out).1
    have d2 := cell_of_row _ _ 2 _ _ _ HNw3.out
    have d3 := cell_of_row _ _ 3 _ _ _ HNw3.out
    simp only [List.getElem?_toArray, List.getElem?_cons_zero, List.getElem?_cons_succ] at d2 d3
    have y2 := fun x : Later w3.heap.size w3 => later_cell x hlt d2
    have y3 := fun x : Later w3.heap.size w3 => later_cell x hlt d3
    refine wp_region_later w3.heap.size (by kernel_rfl) (by kernel_rfl) ?_
    repeat (any_goals (first | go_big_quiet_skip | (go_big_quiet_want; go_big_quiet_op; first | go_big_quiet_on | (apply Exists.intro; refine ⟨fun _ => ?_, ?_⟩; (first | (with_reducible refine Calls.later_of ?_ (K1.out _); exact Nat.le_refl _) | (with_reducible refine Calls.later_of ?_ (K2.out _); exact Nat.le_refl _) | (with_reducible refine Calls.later_of ?_ (K3.out _); exact Nat.le_refl _) | (with_reducible refine Calls.later_of ?_ (K4.out _); exact Nat.le_refl _)); go_big_quiet_on))))
    refine wpQuiet_nil ?_
    intro w4 hw'
    obtain ⟨⟨wz, hbq⟩, hw''⟩ := hw'
    subst hw''
    have HBw4 := Lib.hid (HBw3.out.trans (hbq.mono HBw3.out.size))
    have HNw4 := Lib.hid ((hbq.block _ hlt).trans HNw3.out)
    clear hbq hlt d2 y2 d3 y3
    go_wp2_with fail
    with_reducible refine (CRv.out _).mono ?_
    rintro e w5 ⟨rfl, hb5⟩
    have HBw5 := Lib.hid (HBw4.out.trans (hb5.mono HBw4.out.size))
    have HNw5 := Lib.hid ((hb5.block _ (Array.getElem?_eq_some_iff.1 HNw4.out).1).trans HNw4.out)
    clear hb5
    have HF5 := Lib.hid (HF.out.below HBw5.out)
    have HZ5 := Lib.hid (HZ.out.below HBw5.out)
    clear HF HZ
    go_upto_region 11 with fail
    have hlt := (Array.getElem?_eq_some_iff.1 HNw5.out).1
    have d3 := cell_of_row _ _ 3 _ _ _ HNw5.out
    have d4 := cell_of_row _ _ 4 _ _ _ HNw5.out
    have d5 := cell_of_row _ _ 5 _ _ _ HNw5.out
    have d6 := cell_of_row _ _ 6 _ _ _ HNw5.out
    simp only [List.getElem?_toArray, List.getElem?_cons_zero, List.getElem?_cons_succ] at d3 d4 d5 d6
    have y3 := fun x : Later w5.heap.size w5 => later_cell x hlt d3
    have y4 := fun x : Later w5.heap.size w5 => later_cell x hlt d4
    have y5 := fun x : Later w5.heap.size w5 => later_cell x hlt d5
    have y6 := fun x : Later w5.heap.size w5 => later_cell x hlt d6
    refine wp_region_later w5.heap.size (by kernel_rfl) (by kernel_rfl) ?_
    repeat (any_goals (first | go_big_quiet_skip | (go_big_quiet_want; go_big_quiet_op; first | go_big_quiet_on | (apply Exists.intro; refine ⟨fun _ => ?_, ?_⟩; (first | (with_reducible refine Calls.later_of ?_ (HWF.out _ (HF5.out.below (Later.bel _))); exact Nat.le_refl _) | (with_reducible refine Calls.later_of ?_ (HWZ.out _ (HZ5.out.below (Later.bel _))); exact Nat.le_refl _) | (with_reducible refine Calls.later_of ?_ (CE.out _); exact Nat.le_refl _) | (with_reducible refine Calls.later_of ?_ (CFi.out _); exact Nat.le_refl _) | (with_reducible refine Calls.later_of ?_ (CFo.out _); exact Nat.le_refl _)); go_big_quiet_on))))
    refine wpQuiet_nil ?_
    intro w6 hw'
    obtain ⟨⟨wz, hbq⟩, hw''⟩ := hw'
    subst hw''
    have HBw6 := Lib.hid (HBw5.out.trans (hbq.mono HBw5.out.size))
    have HNw6 := Lib.hid ((hbq.block _ hlt).trans HNw5.out)
    clear hbq hlt d3 y3 d4 y4 d5 y5 d6 y6
    rw [HTL.out]
    go_wp2_with fail
    with_reducible refine (CB.out _).mono ?_
    rintro e w7 ⟨rfl, hb7⟩
    have HB7 := Lib.hid (HBw6.out.trans (hb7.mono HBw6.out.size))
    clear hb7
    go_wp2_with fail
    go_ret2
    exact ⟨rfl, HB7.out⟩
end Go.Proofs.YthkppbimkjmbnaaGreatDoor

/-
  The walk through the reference's Infos, of contents that are alike; what the law of integrity descriptors asks.
-/
namespace Go.Proofs.YthkppbimkjmbnaaGreatDoor
set_option linter.unusedVariables false
open Go.RowKit
open Vs (bs by_)
namespace Vs
/-- What the law asks of an integrity descriptor's block. -/
theorem integ_law (i : In) (loc : Int) : ((integR i loc).2 = 0 ∧ (bs (integR i loc).1).size = 2048 ∧ pinR (by_ (bs (integR i loc).1)) loc = (i, 0)) ∨ (((integR i loc).2 = 1 ∨ (integR i loc).2 = 2) ∧ bs (integR i loc).1 = ⟨#[]⟩) := by
  unfold integR
  by_cases h1 : word loc = true
  · rw [if_pos h1]
    by_cases h2 : okIn i = true
    · rw [if_pos h2]
      obtain ⟨a, b⟩ := (word_iff loc).1 h1
      obtain ⟨N, rfl⟩ := Int.eq_ofNat_of_zero_le a
      obtain ⟨l1, l2⟩ := in_len h2
      refine .inl ⟨rfl, ?_, ?_⟩
      · rw [bs_size, blk_len (by omega)]
      · rw [by_bs, Int.toNat_natCast]
        exact pin_integ (by omega) h2
    · rw [if_neg h2]
      exact .inr ⟨.inl rfl, rfl⟩
  · rw [if_neg h1]
    exact .inr ⟨.inr rfl, rfl⟩
theorem row_cells7 {W : World} {g : Nat} {a b c d e f h : Value} {t : TypeId} (hg : W.heap[g]? = some (.cells #[a, b, c, d, e, f, h] t (0, 0))) : W.cell? ⟨g, 0, none⟩ = some a ∧ W.cell? ⟨g, 1, none⟩ = some b ∧ W.cell? ⟨g, 2, none⟩ = some c ∧ W.cell? ⟨g, 3, none⟩ = some d ∧ W.cell? ⟨g, 4, none⟩ = some e ∧ W.cell? ⟨g, 5, none⟩ = some f ∧ W.cell? ⟨g, 6, none⟩ = some h :=
  ⟨cell_of_row _ _ 0 _ _ _ hg, cell_of_row _ _ 1 _ _ _ hg, cell_of_row _ _ 2 _ _ _ hg, cell_of_row _ _ 3 _ _ _ hg, cell_of_row _ _ 4 _ _ _ hg, cell_of_row _ _ 5 _ _ _ hg, cell_of_row _ _ 6 _ _ _ hg⟩
end Vs

set_option maxHeartbeats 6400000 in
set_option maxRecDepth 100000 in
/-- masterdiscref36.Infos, of contents that are alike. -/
theorem r36Infos_any (i : Vs.In) (v1 v2 v3 v4 : Value) (w : World) (h1 : Kit.Row w v1 (Kit.izs i.free)) (h2 : Kit.Row w v2 (Kit.izs i.size)) (h3 : Kit.Row w v3 (Kit.izs i.free)) (h4 : Kit.Row w v4 (Kit.izs i.size)) :
    Calls Tryz.prog 40 #[.agg (Vs.inC i v1 v2), .agg (Vs.inC i v3 v4)] w fun e w' => e = .returned (.bool true) ∧ Below w.heap.size w w' := by
  have HB := Lib.hid (((Below.refl w.heap.size w).alloc (Nat.le_refl _) (.cells (Vs.inC i v1 v2) 71)).alloc (by simp) (.cells (Vs.inC i v3 v4) 71))
  have HN1 := Lib.hid (heap_alloc2_old w (.cells (Vs.inC i v1 v2) 71) (.cells (Vs.inC i v3 v4) 71))
  have HN2 := Lib.hid (heap_alloc2_new w (.cells (Vs.inC i v1 v2) 71) (.cells (Vs.inC i v3 v4) 71))
  have C1 := Lib.hid (fun W (h : Below w.heap.size w W) => r01Ints_any v1 v3 i.free W (h1.below h) (h3.below h))
  have C2 := Lib.hid (fun W (h : Below w.heap.size w W) => r01Ints_any v2 v4 i.size W (h2.below h) (h4.below h))
  obtain ⟨A1, k1, rfl, _⟩ := h1
  obtain ⟨A2, k2, rfl, _⟩ := h2
  obtain ⟨A3, k3, rfl, _⟩ := h3
  obtain ⟨A4, k4, rfl, _⟩ := h4
  simp only [Kit.izs_length] at *
  obtain ⟨tm, cl, u, fr, sz, fi, fo⟩ := i
  unfold Vs.inC at *
  simp only [] at *
  generalize fr.length = nf at *
  generalize sz.length = nz at *
  go_enter Tryz.func40, Tryz.ntmps40
  go_upto_region 1 with fail
  generalize ((w.alloc (.cells #[.int .i64 tm, .bool cl, .int .i64 u, .slice A1 nf k1, .slice A2 nz k2, .int .i64 fi, .int .i64 fo] 71)).alloc (.cells #[.int .i64 tm, .bool cl, .int .i64 u, .slice A3 nf k3, .slice A4 nz k4, .int .i64 fi, .int .i64 fo] 71)) = W2 at *
  have HL := Lib.hid (fun W (h : Below W2.heap.size W2 W) => show _ ∧ _ from ⟨Vs.row_cells7 ((h.block _ (Array.getElem?_eq_some_iff.1 HN1.out).1).trans HN1.out), Vs.row_cells7 ((h.block _ (Array.getElem?_eq_some_iff.1 HN2.out).1).trans HN2.out)⟩)
  obtain ⟨⟨a0, a1, a2, a3, a4, a5, a6⟩, ⟨b0, b1, b2, b3, b4, b5, b6⟩⟩ := HL.out _ (Below.refl _ _)
  have HR := Lib.hid (Below.refl W2.heap.size W2)
  clear HN1 HN2
  go_wp2_with (first | (with_reducible refine (C1.out _ HB.out).mono ?_; rintro e w3 ⟨rfl, hb3⟩; have HB3 := Lib.hid (HB.out.trans (hb3.mono HB.out.size)); have HR3 := Lib.hid hb3; obtain ⟨⟨a0, a1, a2, a3, a4, a5, a6⟩, ⟨b0, b1, b2, b3, b4, b5, b6⟩⟩ := HL.out _ hb3; clear hb3) | (with_reducible refine (C2.out _ HB3.out).mono ?_; rintro e w4 ⟨rfl, hb4⟩; have HB4 := Lib.hid (HB3.out.trans (hb4.mono HB3.out.size)); obtain ⟨⟨a0, a1, a2, a3, a4, a5, a6⟩, ⟨b0, b1, b2, b3, b4, b5, b6⟩⟩ := HL.out _ (HR3.out.trans (hb4.mono HR3.out.size)); clear hb4))
  go_ret
  exact ⟨rfl, HB4.out⟩
end Go.Proofs.YthkppbimkjmbnaaGreatDoor

/-
  The walk through VolumeseqIntegrity.
-/
namespace Go.Proofs.YthkppbimkjmbnaaGreatDoor
set_option linter.unusedVariables false
open Go.RowKit Go.Maps
open Vs (bs by_)

set_option maxHeartbeats 12800000 in
set_option maxRecDepth 100000 in
/-- VolumeseqIntegrity. -/
theorem lawIntegrity_any (i : Vs.In) (vf vz : Value) (loc : Int) (s : ByteArray) (w : World) (m : Int) (hf : Kit.RowS w vf (Kit.izs i.free)) (hz : Kit.RowS w vz (Kit.izs i.size)) (hT : Lib.Utf8Tabs 1 2 w) (hM : w.cell? ⟨0, 0, none⟩ = some (.int .i64 m)) :
    Calls Tryz.prog 10 #[.agg (Vs.inC i vf vz), .int .i64 loc, .string s] w fun e w' => e = .returned (.bool true) ∧ Below w.heap.size w w' := by
  have HT := Lib.hid hT
  have HM := Lib.hid hM
  have CA := Lib.hid (fun W h1 h2 => awake_any W m h1 h2)
  have HB0 := Lib.hid ((Below.refl w.heap.size w).alloc (Nat.le_refl _) (.cells (Vs.inC i vf vz) 71))
  have HN0 := Lib.hid (heap_alloc_new w (.cells (Vs.inC i vf vz) 71))
  have CF := Lib.hid (fun W (h : Below w.heap.size w W) p q => vIntegrity_any i vf vz loc W (hf.below h) (hz.below h) p q)
  have CG := Lib.hid (fun W (h : Below w.heap.size w W) p q => r36Integrity_any i vf vz loc W (hf.1.below h) (hz.1.below h) p q)
  have CP := Lib.hid (fun W q => vParseIntegrity_any s loc W q)
  have CQ := Lib.hid (fun W q => r36ParseIntegrity_any s loc W q)
  have CR := Lib.hid (fun b r W (q : b.size = 2048) (e : Vs.pinR (by_ b) loc = r) => (e ▸ vParseIntegrity_any b loc W (by omega) : Calls Tryz.prog 38 #[.string b, .int .i64 loc] W fun e w' => ∃ vf vz, e = .returned (.tuple #[.agg (Vs.inC r.1 vf vz), .int .i64 r.2]) ∧ Kit.Row w' vf (Kit.izs r.1.free) ∧ Kit.Row w' vz (Kit.izs r.1.size) ∧ Below W.heap.size W w'))
  have CI := Lib.hid (fun (j : Vs.In) v1 v2 v3 v4 W h1 h2 h3 h4 => r36Infos_any j v1 v2 v3 v4 W h1 h2 h3 h4)
  have HRF := Lib.hid (fun W (h : Below w.heap.size w W) => hf.1.below h)
  have HRZ := Lib.hid (fun W (h : Below w.heap.size w W) => hz.1.below h)
  have HFC := Lib.hid (Vs.integ_law i loc)
  have HLD := Lib.hid (fun (W : World) (g : Nat) (j : Vs.In) (v1 v2 : Value) (h : W.heap[g]? = some (.cells (Vs.inC j v1 v2) 71 (0, 0))) => show (loadVar 71 ⟨g, 0, none⟩).run Tryz.prog W = .ok (.agg (Vs.inC j v1 v2)) W from Vs.ibox_load h)
  generalize Vs.integR i loc = FR at *
  generalize Vs.pinR (by_ s) loc = PR at *
  obtain ⟨Af, cf, rfl, _⟩ := hf.1
  obtain ⟨Az, cz, rfl, _⟩ := hz.1
  obtain ⟨⟨ptm, pcl, pu, pfr, psz, pfi, pfo⟩, pe⟩ := PR
  obtain ⟨FL, fe⟩ := FR
  simp only [Kit.izs_length] at *
  generalize bs FL = FB at *
  have hlf : i.free.length = i.free.length := rfl
  obtain ⟨X, hX⟩ : ∃ X, X = Vs.inC i (.slice Af i.free.length cf) (.slice Az i.size.length cz) := ⟨_, rfl⟩
  obtain ⟨nf, hnf⟩ : ∃ n, n = i.free.length := ⟨_, rfl⟩
  obtain ⟨nz, hnz⟩ : ∃ n, n = i.size.length := ⟨_, rfl⟩
  have HC3 := Lib.hid (fun (W : World) (h : W.heap[w.heap.size]? = some (.cells X 71 (0, 0))) => show W.cell? ⟨w.heap.size, 3, none⟩ = some (.slice Af nf cf) ∧ W.cell? ⟨w.heap.size, 4, none⟩ = some (.slice Az nz cz) by
    rw [hX] at h
    have c3 := cell_of_row _ _ 3 _ _ _ h
    have c4 := cell_of_row _ _ 4 _ _ _ h
    rw [hnf, hnz]
    exact ⟨c3, c4⟩)
  have HL0 := Lib.hid (fun (W : World) (h : W.heap[w.heap.size]? = some (.cells X 71 (0, 0))) => show (loadVar 71 ⟨w.heap.size, 0, none⟩).run Tryz.prog W = .ok (.agg X) W by rw [hX] at h ⊢; exact HLD.out _ _ _ _ _ h)
  have CI0 := Lib.hid (fun v1 v2 W h1 h2 h3 h4 => show Calls Tryz.prog 40 #[.agg #[.int .i64 i.time, .bool i.closed, .int .i64 i.unique, v1, v2, .int .i64 i.files, .int .i64 i.folders], .agg X] W fun e w' => e = .returned (.bool true) ∧ Below W.heap.size W w' by rw [hX]; exact r36Infos_any i v1 v2 _ _ W h1 h2 h3 h4)
  have CI1 := Lib.hid (fun v1 v2 v3 v4 W h1 h2 h3 h4 => show Calls Tryz.prog 40 #[.agg #[.int .i64 ptm, .bool pcl, .int .i64 pu, v1, v2, .int .i64 pfi, .int .i64 pfo], .agg #[.int .i64 ptm, .bool pcl, .int .i64 pu, v3, v4, .int .i64 pfi, .int .i64 pfo]] W fun e w' => e = .returned (.bool true) ∧ Below W.heap.size W w' from r36Infos_any ⟨ptm, pcl, pu, pfr, psz, pfi, pfo⟩ v1 v2 v3 v4 W h1 h2 h3 h4)
  rw [← hX] at HB0 HN0 CF CG
  rw [← hX]
  have hnf2 := hnf
  have hnz2 := hnz
  rw [← hnf, ← hnz] at CF CG
  clear hT hM hf hz hX hlf
  go_enter Tryz.func10, Tryz.ntmps10
  clear hnf hnz hnf2 hnz2
  go_wp2_with fail
  generalize w.alloc (.cells X 71) = w0 at *
  with_reducible refine (CA.out _ (Kit.tabs_below HT.out HB0.out) ((HB0.out.cell (p := ⟨0, 0, none⟩) (World.block_lt_of_cell? _ _ HM.out)).trans HM.out)).mono ?_
  rintro e w1 ⟨rfl, hb1⟩
  have HB1 := Lib.hid (HB0.out.trans (hb1.mono HB0.out.size))
  have HN1 := Lib.hid ((hb1.block w.heap.size (Array.getElem?_eq_some_iff.1 HN0.out).1).trans HN0.out)
  clear hb1 HB0 HN0 CA HM
  obtain ⟨c3, c4⟩ := HC3.out _ HN1.out
  by_cases h1 : nf ≤ 12
  case neg =>
    have d1 : decide ((12 : Int) < (nf : Int)) = true := decide_eq_true (by omega)
    clear h1
    go_wp2_with fail
    go_ret
    exact ⟨rfl, HB1.out⟩
  have d1 : decide ((12 : Int) < (nf : Int)) = false := decide_eq_false (by omega)
  by_cases h2 : nz ≤ 12
  case neg =>
    have d2 : decide ((12 : Int) < (nz : Int)) = true := decide_eq_true (by omega)
    clear h1 h2
    go_wp2_with fail
    go_ret
    exact ⟨rfl, HB1.out⟩
  have d2 : decide ((12 : Int) < (nz : Int)) = false := decide_eq_false (by omega)
  by_cases h3 : s.size ≤ 2100
  case neg =>
    have d3 : decide ((2100 : Int) < (s.size : Int)) = true := decide_eq_true (by omega)
    clear h1 h2 h3
    go_wp2_with fail
    go_ret
    exact ⟨rfl, HB1.out⟩
  have d3 : decide ((2100 : Int) < (s.size : Int)) = false := decide_eq_false (by omega)
  have CF2 := Lib.hid (fun W h => CF.out W h (by omega) (by omega))
  have CG2 := Lib.hid (fun W h => CG.out W h (by omega) (by omega))
  have CP2 := Lib.hid (fun W => CP.out W (by omega))
  have CQ2 := Lib.hid (fun W => CQ.out W (by omega))
  clear CF CG CP CQ h1 h2 h3
  go_upto_region 5 with fail
  clear d1 d2 d3 c3 c4
  go_wp2_with (refine wpList_load_at 71 _ rfl w.heap.size 0 rfl _ (HL0.out _ HN1.out) (by rfl) ?_)
  with_reducible refine (CF2.out _ HB1.out).mono ?_
  rintro e w2 ⟨rfl, hb2⟩
  have HB2 := Lib.hid (HB1.out.trans (hb2.mono HB1.out.size))
  have HN2 := Lib.hid ((hb2.block w.heap.size (Array.getElem?_eq_some_iff.1 HN1.out).1).trans HN1.out)
  clear hb2 HN1 HB1 CF2
  go_wp2_with (refine wpList_load_at 71 _ rfl w.heap.size 0 rfl _ (HL0.out _ HN2.out) (by rfl) ?_)
  with_reducible refine (CG2.out _ HB2.out).mono ?_
  rintro e w3 ⟨rfl, hb3⟩
  have HB3 := Lib.hid (HB2.out.trans (hb3.mono HB2.out.size))
  have HN3 := Lib.hid ((hb3.block w.heap.size (Array.getElem?_eq_some_iff.1 HN2.out).1).trans HN2.out)
  clear hb3 HN2 HB2 CG2
  go_wp2_with fail
  with_reducible refine (CP2.out _).mono ?_
  rintro e w4 ⟨v1, v2, rfl, hr1, hr2, hb4⟩
  have HB4 := Lib.hid (HB3.out.trans (hb4.mono HB3.out.size))
  have HN4 := Lib.hid ((hb4.block w.heap.size (Array.getElem?_eq_some_iff.1 HN3.out).1).trans HN3.out)
  have HR1 := Lib.hid hr1
  have HR2 := Lib.hid hr2
  clear hb4 HN3 HB3 CP2
  obtain ⟨A1, k1, rfl, _⟩ := hr1
  obtain ⟨A2, k2, rfl, _⟩ := hr2
  simp only [Kit.izs_length] at *
  try unfold Vs.inC
  try simp only []
  go_upto_region 8 with fail
  have HB5 := Lib.hid (HB4.out.alloc HB4.out.size (.cells #[.int .i64 ptm, .bool pcl, .int .i64 pu, .slice A1 pfr.length k1, .slice A2 psz.length k2, .int .i64 pfi, .int .i64 pfo] 71))
  have hba := (Below.refl w4.heap.size w4).alloc (Nat.le_refl _) (.cells #[.int .i64 ptm, .bool pcl, .int .i64 pu, .slice A1 pfr.length k1, .slice A2 psz.length k2, .int .i64 pfi, .int .i64 pfo] 71)
  have HN5 := Lib.hid ((hba.block w.heap.size (Array.getElem?_eq_some_iff.1 HN4.out).1).trans HN4.out)
  have HO5 := Lib.hid (heap_alloc_new w4 (.cells #[.int .i64 ptm, .bool pcl, .int .i64 pu, .slice A1 pfr.length k1, .slice A2 psz.length k2, .int .i64 pfi, .int .i64 pfo] 71))
  have HR15 := Lib.hid (HR1.out.below hba)
  have HR25 := Lib.hid (HR2.out.below hba)
  clear hba HR1 HR2 HB4 HN4
  generalize w4.alloc (.cells #[.int .i64 ptm, .bool pcl, .int .i64 pu, .slice A1 pfr.length k1, .slice A2 psz.length k2, .int .i64 pfi, .int .i64 pfo] 71) = w5 at *
  generalize w4.heap.size = g4 at *
  go_wp2_with fail
  with_reducible refine (CQ2.out _).mono ?_
  rintro e w6 ⟨v3, v4, rfl, hr3, hr4, hb6⟩
  have HB6 := Lib.hid (HB5.out.trans (hb6.mono HB5.out.size))
  have HN6 := Lib.hid ((hb6.block w.heap.size (Array.getElem?_eq_some_iff.1 HN5.out).1).trans HN5.out)
  have HO6 := Lib.hid ((hb6.block g4 (Array.getElem?_eq_some_iff.1 HO5.out).1).trans HO5.out)
  have HR16 := Lib.hid (HR15.out.below hb6)
  have HR26 := Lib.hid (HR25.out.below hb6)
  have HR36 := Lib.hid hr3
  have HR46 := Lib.hid hr4
  clear hb6 HN5 HO5 HB5 HR15 HR25 CQ2
  obtain ⟨A3, k3, rfl, _⟩ := hr3
  obtain ⟨A4, k4, rfl, _⟩ := hr4
  simp only [Kit.izs_length] at *
  try unfold Vs.inC
  try simp only []
  go_upto_region 9 with fail
  have HB7 := Lib.hid (HB6.out.alloc HB6.out.size (.cells #[.int .i64 ptm, .bool pcl, .int .i64 pu, .slice A3 pfr.length k3, .slice A4 psz.length k4, .int .i64 pfi, .int .i64 pfo] 71))
  have hba := (Below.refl w6.heap.size w6).alloc (Nat.le_refl _) (.cells #[.int .i64 ptm, .bool pcl, .int .i64 pu, .slice A3 pfr.length k3, .slice A4 psz.length k4, .int .i64 pfi, .int .i64 pfo] 71)
  have HN7 := Lib.hid ((hba.block w.heap.size (Array.getElem?_eq_some_iff.1 HN6.out).1).trans HN6.out)
  have HO7 := Lib.hid ((hba.block g4 (Array.getElem?_eq_some_iff.1 HO6.out).1).trans HO6.out)
  have HQ7 := Lib.hid (heap_alloc_new w6 (.cells #[.int .i64 ptm, .bool pcl, .int .i64 pu, .slice A3 pfr.length k3, .slice A4 psz.length k4, .int .i64 pfi, .int .i64 pfo] 71))
  have CI2 := Lib.hid (CI1.out _ _ _ _ _ (HR16.out.below hba) (HR26.out.below hba) (HR36.out.below hba) (HR46.out.below hba))
  clear hba HN6 HO6 HB6 HR16 HR26 HR36 HR46 CI1
  generalize w6.alloc (.cells #[.int .i64 ptm, .bool pcl, .int .i64 pu, .slice A3 pfr.length k3, .slice A4 psz.length k4, .int .i64 pfi, .int .i64 pfo] 71) = w7 at *
  generalize w6.heap.size = g6 at *
  have HLA := Lib.hid (HLD.out w7 g4 ⟨ptm, pcl, pu, pfr, psz, pfi, pfo⟩ _ _ HO7.out)
  have HLB := Lib.hid (HLD.out w7 g6 ⟨ptm, pcl, pu, pfr, psz, pfi, pfo⟩ _ _ HQ7.out)
  unfold Vs.inC at HLA HLB
  try simp only [] at HLA HLB
  clear HO7 HQ7
  go_wp2_with (first | (refine wpList_load_at 71 _ rfl g4 0 rfl _ HLA.out (by rfl) ?_) | (refine wpList_load_at 71 _ rfl g6 0 rfl _ HLB.out (by rfl) ?_))
  with_reducible refine CI2.out.mono ?_
  rintro e w8 ⟨rfl, hb8⟩
  have HB8 := Lib.hid (HB7.out.trans (hb8.mono HB7.out.size))
  have HN8 := Lib.hid ((hb8.block w.heap.size (Array.getElem?_eq_some_iff.1 HN7.out).1).trans HN7.out)
  clear hb8 HN7 HB7 CI2 HLA HLB
  rcases HFC.out with ⟨hfe, hsz, hpf⟩ | ⟨hfe, hem⟩
  case inr =>
    have de : (fe != 0) = true := by rw [bne_iff_ne]; omega
    subst hem
    clear hfe HFC
    go_wp2_with fail
    go_ret
    exact ⟨rfl, HB8.out⟩
  have CR2 := Lib.hid (fun W => CR.out FB (i, 0) W hsz hpf)
  subst hfe
  clear hsz hpf CR HFC
  go_wp2_with fail
  with_reducible refine (CR2.out _).mono ?_
  rintro e w9 ⟨v5, v6, rfl, hr5, hr6, hb9⟩
  have HB9 := Lib.hid (HB8.out.trans (hb9.mono HB8.out.size))
  have HN9 := Lib.hid ((hb9.block w.heap.size (Array.getElem?_eq_some_iff.1 HN8.out).1).trans HN8.out)
  have HR59 := Lib.hid hr5
  have HR69 := Lib.hid hr6
  clear hb9 HN8 HB8 CR2
  obtain ⟨A5, k5, rfl, _⟩ := hr5
  obtain ⟨A6, k6, rfl, _⟩ := hr6
  simp only [Kit.izs_length] at *
  try unfold Vs.inC
  try simp only []
  go_upto_region 14 with fail
  have HBa := Lib.hid (HB9.out.alloc HB9.out.size (.cells #[.int .i64 i.time, .bool i.closed, .int .i64 i.unique, .slice A5 i.free.length k5, .slice A6 i.size.length k6, .int .i64 i.files, .int .i64 i.folders] 71))
  have hba := (Below.refl w9.heap.size w9).alloc (Nat.le_refl _) (.cells #[.int .i64 i.time, .bool i.closed, .int .i64 i.unique, .slice A5 i.free.length k5, .slice A6 i.size.length k6, .int .i64 i.files, .int .i64 i.folders] 71)
  have HNa := Lib.hid ((hba.block w.heap.size (Array.getElem?_eq_some_iff.1 HN9.out).1).trans HN9.out)
  have HOa := Lib.hid (heap_alloc_new w9 (.cells #[.int .i64 i.time, .bool i.closed, .int .i64 i.unique, .slice A5 i.free.length k5, .slice A6 i.size.length k6, .int .i64 i.files, .int .i64 i.folders] 71))
  have CI2 := Lib.hid (CI0.out _ _ _ (HR59.out.below hba) (HR69.out.below hba) (HRF.out _ HBa.out) (HRZ.out _ HBa.out))
  clear hba HN9 HB9 HR59 HR69 CI0
  generalize w9.alloc (.cells #[.int .i64 i.time, .bool i.closed, .int .i64 i.unique, .slice A5 i.free.length k5, .slice A6 i.size.length k6, .int .i64 i.files, .int .i64 i.folders] 71) = wa at *
  generalize w9.heap.size = g9 at *
  have HLA := Lib.hid (HLD.out wa g9 i _ _ HOa.out)
  have HLB := Lib.hid (HL0.out wa HNa.out)
  unfold Vs.inC at HLA
  go_wp2_with (first | (refine wpList_load_at 71 _ rfl g9 0 rfl _ HLA.out (by rfl) ?_) | (refine wpList_load_at 71 _ rfl w.heap.size 0 rfl _ HLB.out (by rfl) ?_))
  with_reducible refine CI2.out.mono ?_
  rintro e wb ⟨rfl, hbb⟩
  have HBb := Lib.hid (HBa.out.trans (hbb.mono HBa.out.size))
  go_wp2_with fail
  go_ret
  exact ⟨rfl, HBb.out⟩
end Go.Proofs.YthkppbimkjmbnaaGreatDoor

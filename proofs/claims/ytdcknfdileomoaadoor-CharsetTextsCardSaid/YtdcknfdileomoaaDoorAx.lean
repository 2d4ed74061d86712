/-
  The walk through awake of the statements of layer 17: it returns true.
-/
import Derived.Test.YtdcknfdileomoaaDoorG4
import Derived.Test.YtdcknfdileomoaaDoorE1
import Derived.Test.YtdcknfdileomoaaDoorF2
import Derived.Test.YtdcknfdileomoaaDoorC1
namespace Go.Proofs.YtdcknfdileomoaaDoor
open Go.RowKit

theorem awC : Cs.charsR [65, 195, 169, 226, 130, 172] = ([65, 233, 8364], 0) := by decide +kernel
theorem awT : Cs.textR [65, 233, 8364] = ([65, 195, 169, 226, 130, 172], 0) := by decide +kernel
theorem awU : Cs.ucs2R [65, 195, 169, 226, 130, 172] = ([0, 65, 0, 233, 32, 172], 0) := by decide +kernel
theorem awF : Cs.fromR [0, 65, 0, 233, 32, 172] = ([65, 195, 169, 226, 130, 172], 0) := by decide +kernel
theorem awW : Cs.wideFieldR [65, 195, 169, 226, 130, 172] 9 = ([0, 65, 0, 233, 32, 172, 0, 32, 0], 0) := by decide +kernel
theorem awX : Cs.wideTrimR [0, 65, 0, 233, 32, 172, 0, 32, 0] = ([65, 195, 169, 226, 130, 172], 0) := by decide +kernel
theorem awY : Cs.fieldR [65, 66] 4 = ([65, 66, 32, 32], 0) := by decide +kernel
theorem awM : Cs.trimR [65, 66, 32, 32] = [65, 66] := by decide +kernel
theorem awA : Cs.achR [82, 69, 65, 68, 77, 69, 46, 84, 88, 84] = true := by decide +kernel
theorem awD : Cs.dchR [82, 69, 65, 68, 77, 69, 46, 84, 88, 84] = false := by decide +kernel
theorem awE : Cs.dchR [82, 69, 65, 68, 77, 69, 95, 49] = true := by decide +kernel
theorem awP : Cs.upperR [97, 98, 95, 195, 169] = [65, 66, 95, 195, 169] := by decide +kernel

theorem row3 (W : World) : Kit.Row (W.alloc (.cells #[.int .i64 65, .int .i64 233, .int .i64 8364] 3)) (.slice (some ⟨W.heap.size, 0, none⟩) 3 3) (Kit.izs [65, 233, 8364]) :=
  Kit.Row.of_own (Kit.own_new W 3 (Kit.izs [65, 233, 8364]) (by simp [Kit.izs, maxLen]))
theorem cat9 : ([0, 65, 0, 233, 32, 172, 0, 32, 0] : List UInt8) = ((⟨#[0, 65, 0, 233, 32, 172]⟩ : ByteArray) ++ ⟨#[0, 32, 0]⟩).toList := by
  rw [Lib.toList_data]
  simp [ByteArray.data_append]
theorem ints3 : Kit.ints [65, 233, 8364] = Kit.izs [65, 233, 8364] := rfl

set_option maxHeartbeats 3200000 in
set_option maxRecDepth 100000 in
/-- awake. -/
theorem awake_any (w : World) (hT : Lib.Utf8Tabs 1 2 w) :
    Calls Tryd.prog 11 #[] w fun e w' => e = .returned (.bool true) ∧ Below w.heap.size w w' := by
  have c1 := fun W h => characters_any ⟨#[65, 195, 169, 226, 130, 172]⟩ W h (by decide)
  have c2 := fun v W hr => text_any v [65, 233, 8364] W hr (by decide)
  have c3 := fun W h => ucs2_any ⟨#[65, 195, 169, 226, 130, 172]⟩ W h (by decide)
  have c4 := fun W => from_any ⟨#[0, 65, 0, 233, 32, 172]⟩ W (by decide)
  have c5 := fun W h => wideField_any ⟨#[65, 195, 169, 226, 130, 172]⟩ 9 W h (by decide)
  have c6 := fun W => wideTrim_any ⟨#[0, 65, 0, 233, 32, 172, 0, 32, 0]⟩ W (by decide)
  have c7 := fun W => field_any ⟨#[65, 66]⟩ 4 W (by decide)
  have c8 := fun W => trim_any ⟨#[65, 66, 32, 32]⟩ W (by decide)
  have c9 := fun W => achars_any ⟨#[82, 69, 65, 68, 77, 69, 46, 84, 88, 84]⟩ W (by decide)
  have c10 := fun W => dchars_any ⟨#[82, 69, 65, 68, 77, 69, 46, 84, 88, 84]⟩ W (by decide)
  have c11 := fun W => dchars_any ⟨#[82, 69, 65, 68, 77, 69, 95, 49]⟩ W (by decide)
  have c12 := fun W => upper_any ⟨#[97, 98, 95, 195, 169]⟩ W (by decide)
  have c13 := fun v1 v2 W h1 h2 => equal_any v1 v2 [65, 233, 8364] [65, 233, 8364] W h1 h2
  simp only [awC, awT, awU, awF, awW, awX, awY, awM, awA, awD, awE, awP, decide_true] at c1 c2 c3 c4 c5 c6 c7 c8 c9 c10 c11 c12 c13
  have C1 := Lib.hid c1; have C2 := Lib.hid c2; have C3 := Lib.hid c3; have C4 := Lib.hid c4; have C5 := Lib.hid c5; have C6 := Lib.hid c6
  have C7 := Lib.hid c7; have C8 := Lib.hid c8; have C9 := Lib.hid c9; have C10 := Lib.hid c10; have C11 := Lib.hid c11; have C12 := Lib.hid c12; have C13 := Lib.hid c13
  have HT := Lib.hid hT
  clear c1 c2 c3 c4 c5 c6 c7 c8 c9 c10 c11 c12 c13 hT
  go_enter Tryd.func11, Tryd.ntmps11
  go_wp2_with fail
  with_reducible refine (C1.out _ HT.out).mono ?_
  rintro e w1 ⟨v1, rfl, ho1, hb1⟩
  have HR1 := Lib.hid (Kit.Row.of_own (ints3 ▸ ho1))
  clear ho1
  go_wp2_with fail
  with_reducible refine (C2.out _ _ (row3 w1)).mono ?_
  rintro e w2 ⟨rfl, hb2⟩
  have hc2 := (hb1.alloc hb1.size _).trans (hb2.mono (by simp; exact Nat.le_succ_of_le hb1.size))
  have hrw : Below w1.heap.size w1 w2 := ((Below.refl _ _).alloc (Nat.le_refl _) _).trans (hb2.mono (by simp))
  have HR2 := Lib.hid (HR1.out.below hrw)
  clear hb1 hb2 HR1 hrw
  go_wp2_with fail
  with_reducible refine (C3.out _ (Kit.tabs_below HT.out hc2)).mono ?_
  rintro e w3 ⟨rfl, hb3⟩
  have hc3 := hc2.trans (hb3.mono hc2.size)
  have HR3 := Lib.hid (HR2.out.below hb3)
  clear hc2 hb3 HR2
  go_wp2_with fail
  with_reducible refine (C4.out _).mono ?_
  rintro e w4 ⟨rfl, hb4⟩
  have hc4 := hc3.trans (hb4.mono hc3.size)
  have HR4 := Lib.hid (HR3.out.below hb4)
  clear hc3 hb4 HR3
  go_wp2_with fail
  with_reducible refine (C5.out _ (Kit.tabs_below HT.out hc4)).mono ?_
  rintro e w5 ⟨rfl, hb5⟩
  have hc5 := hc4.trans (hb5.mono hc4.size)
  have HR5 := Lib.hid (HR4.out.below hb5)
  clear hc4 hb5 HR4
  go_wp2_with fail
  with_reducible refine (C6.out _).mono ?_
  rintro e w6 ⟨rfl, hb6⟩
  have hc6 := hc5.trans (hb6.mono hc5.size)
  have HR6 := Lib.hid (HR5.out.below hb6)
  clear hc5 hb6 HR5
  go_wp2_with fail
  with_reducible refine (C7.out _).mono ?_
  rintro e w7 ⟨rfl, hb7⟩
  have hc7 := hc6.trans (hb7.mono hc6.size)
  have HR7 := Lib.hid (HR6.out.below hb7)
  clear hc6 hb7 HR6
  go_wp2_with fail
  with_reducible refine (C13.out _ _ _ (HR7.out.below ((Below.refl _ _).alloc (Nat.le_refl _) _)) (row3 w7)).mono ?_
  rintro e w8 ⟨rfl, hb8⟩
  have hc8 := (hc7.alloc hc7.size _).trans (hb8.mono (by simp; exact Nat.le_succ_of_le hc7.size))
  clear hc7 hb8 HR7
  go_wp2_with fail
  rotate_left 1
  · exact absurd cat9 (by assumption)
  with_reducible refine (C8.out _).mono ?_
  rintro e w9 ⟨rfl, rfl⟩
  go_wp2_with fail
  with_reducible refine (C9.out _).mono ?_
  rintro e w10 ⟨rfl, hb10⟩
  have hc10 := hc8.trans (hb10.mono hc8.size)
  go_wp2_with fail
  with_reducible refine (C10.out _).mono ?_
  rintro e w11 ⟨rfl, hb11⟩
  have hc11 := hc10.trans (hb11.mono hc10.size)
  go_wp2_with fail
  with_reducible refine (C11.out _).mono ?_
  rintro e w12 ⟨rfl, hb12⟩
  have hc12 := hc11.trans (hb12.mono hc11.size)
  go_wp2_with fail
  with_reducible refine (C12.out _).mono ?_
  rintro e w13 ⟨rfl, hb13⟩
  have hc13 := hc12.trans (hb13.mono hc12.size)
  go_wp2_with fail
  go_ret
  exact ⟨rfl, hc13⟩
end Go.Proofs.YtdcknfdileomoaaDoor

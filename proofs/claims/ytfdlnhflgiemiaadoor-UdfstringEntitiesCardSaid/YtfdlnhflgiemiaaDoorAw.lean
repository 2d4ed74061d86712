/-
  The walk through awake of the statements of layer 32: it returns true.
-/
import Derived.Test.YtfdlnhflgiemiaaDoorV5
namespace Go.Proofs.YtfdlnhflgiemiaaDoor
open Go.RowKit

/-- The character set specification. -/
def charspecL : List UInt8 := [0, 79, 83, 84, 65, 32, 67, 111, 109, 112, 114, 101, 115, 115, 101, 100, 32, 85, 110, 105, 99, 111, 100, 101] ++ List.replicate 40 0

set_option maxHeartbeats 1600000 in
set_option maxRecDepth 100000 in
/-- udfstring.Charspec. -/
theorem charspec_any (w : World) : Calls Tryd.prog 28 #[] w fun e w' => e = .returned (.string ⟨charspecL.toArray⟩) ∧ Below w.heap.size w w' := by
  have cZ := fun W => zeros_any 40 (by decide) (by decide) W
  generalize hr : List.replicate (40 : Int).toNat (0 : UInt8) = r at cZ
  have hr' : r = List.replicate 40 0 := hr.symm
  have hl : r.length ≤ 40 := by rw [hr']; simp
  have HR := Lib.hid hr'
  have CZ := Lib.hid cZ
  clear cZ hr hr'
  go_enter Tryd.func28, Tryd.ntmps28
  go_wp2_with fail
  with_reducible refine (CZ.out _).mono ?_
  rintro e w3 ⟨rfl, hb3⟩
  go_wp2_with fail
  go_ret
  refine ⟨?_, hb3⟩
  rw [HR.out]
  exact congrArg (fun s => Ending.returned (.string s)) (Kit.append_mk [0, 79, 83, 84, 65, 32, 67, 111, 109, 112, 114, 101, 115, 115, 101, 100, 32, 85, 110, 105, 99, 111, 100, 101] _)

theorem awC1 : Cs.compressR [65, 195, 169] = ([8, 65, 233], 0) := by decide +kernel
theorem awC2 : Cs.compressR [65, 226, 130, 172] = ([16, 0, 65, 32, 172], 0) := by decide +kernel
theorem awD : Cs.dstrR [65, 195, 169] 8 = ([8, 65, 233, 0, 0, 0, 0, 3], 0) := by decide +kernel
theorem awP : Cs.parseR [8, 65, 233, 0, 0, 0, 0, 3] = ([65, 195, 169], 0) := by decide +kernel
theorem awF : Cs.fitR [65, 226, 130, 172] 4 = [65] := by decide +kernel

set_option maxHeartbeats 3200000 in
set_option maxRecDepth 100000 in
/-- awake. -/
theorem awake_any (w : World) (hT : Lib.Utf8Tabs 0 1 w) :
    Calls Tryd.prog 10 #[] w fun e w' => e = .returned (.bool true) ∧ Below w.heap.size w w' := by
  have c1 := fun W h => compress_any ⟨#[65, 195, 169]⟩ W h (by decide)
  have c2 := fun W h => compress_any ⟨#[65, 226, 130, 172]⟩ W h (by decide)
  have c3 := fun W h => dstring_any ⟨#[65, 195, 169]⟩ 8 W h (by decide)
  have c4 := fun W => parse_any ⟨#[8, 65, 233, 0, 0, 0, 0, 3]⟩ W (by decide)
  have c5 := fun W h => fit_any ⟨#[65, 226, 130, 172]⟩ 4 W h (by decide)
  simp only [awC1, awC2, awD, awP, awF] at c1 c2 c3 c4 c5
  have C1 := Lib.hid c1; have C2 := Lib.hid c2; have C3 := Lib.hid c3; have C4 := Lib.hid c4; have C5 := Lib.hid c5
  have HT := Lib.hid hT
  clear c1 c2 c3 c4 c5 hT
  go_enter Tryd.func10, Tryd.ntmps10
  go_wp2_with fail
  with_reducible refine (C1.out _ HT.out).mono ?_
  rintro e w1 ⟨rfl, hb1⟩
  go_wp2_with fail
  with_reducible refine (C2.out _ (Kit.tabs_below HT.out hb1)).mono ?_
  rintro e w2 ⟨rfl, hb2⟩
  have hc2 := hb1.trans (hb2.mono hb1.size)
  go_wp2_with fail
  with_reducible refine (C3.out _ (Kit.tabs_below HT.out hc2)).mono ?_
  rintro e w3 ⟨rfl, hb3⟩
  have hc3 := hc2.trans (hb3.mono hc2.size)
  go_wp2_with fail
  with_reducible refine (C4.out _).mono ?_
  rintro e w4 ⟨rfl, hb4⟩
  have hc4 := hc3.trans (hb4.mono hc3.size)
  clear hb1 hb2 hb3 hb4 hc2 hc3
  have cx := fun W => charspec_any W
  have hl : charspecL.length = 64 := by decide
  generalize charspecL = cl at cx hl
  have CX := Lib.hid cx
  clear cx
  have hl' : ((cl.length : Nat) : Int) = 64 := by omega
  go_wp2_with fail
  with_reducible refine (C5.out _ (Kit.tabs_below HT.out hc4)).mono ?_
  rintro e w5 ⟨rfl, hb5⟩
  have hc5 := hc4.trans (hb5.mono hc4.size)
  go_wp2_with fail
  with_reducible refine (CX.out _).mono ?_
  rintro e w6 ⟨rfl, hb6⟩
  have hc6 := hc5.trans (hb6.mono hc5.size)
  go_wp2_with fail
  go_ret
  exact ⟨rfl, hc6⟩
end Go.Proofs.YtfdlnhflgiemiaaDoor

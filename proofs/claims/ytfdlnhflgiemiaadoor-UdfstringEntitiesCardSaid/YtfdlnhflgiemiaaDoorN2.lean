/-
  The walks through Entity of udfstring and of the reference.
-/
import Derived.Test.YtfdlnhflgiemiaaDoorN1
import Derived.Test.YtfdlnhflgiemiaaDoorU5
import Derived.Test.YtfdlnhflgiemiaaDoorV5
namespace Go.Proofs.YtfdlnhflgiemiaaDoor
open Go.RowKit
namespace Cs
/-- All bytes printable. -/
def allP (l : List UInt8) : Bool := l.all prt
/-- What Entity returns. -/
def entR (i s : List UInt8) : List UInt8 × Int :=
  if idR i = true ∧ s.length ≤ 8 then (0 :: i ++ List.replicate (23 - i.length) 0 ++ s ++ List.replicate (8 - s.length) 0, 0) else ([], 1)
theorem idR_len {l : List UInt8} (h : idR l = true) : 1 ≤ l.length ∧ l.length ≤ 23 := by
  unfold idR at h
  simp only [Bool.and_eq_true, decide_eq_true_eq] at h
  exact ⟨h.1, h.2.1⟩
end Cs

set_option maxHeartbeats 1600000 in
set_option maxRecDepth 100000 in
/-- masterdiscref32.printable. -/
theorem rPrintable_any (s : ByteArray) (w : World) (hs : s.size ≤ 9223372036854775807) :
    Calls Tryd.prog 49 #[.string s] w fun e w' => e = .returned (.bool (Cs.allP s.data.toList)) ∧ Below w.heap.size w w' := by
  have HDL := Lib.hid (Kit.len_size s)
  go_enter Tryd.func49, Tryd.ntmps49
  go_wp2_with fail
  go_loopw [3] (fun iv wr => ∃ j : Nat, j ≤ s.size ∧ iv = .int .i64 j ∧ Hid ((s.data.toList.take j).all Cs.prt = true) ∧ Below w.heap.size w wr) (fun iv _ => s.size - (intOf iv).toNat)
  case atStart => exact ⟨0, by omega, rfl, Lib.hid rfl, Below.refl _ _⟩
  case round =>
    obtain ⟨j, hj, rfl, HA, hbw⟩ := hrel
    by_cases hlt : j < s.size
    · have b0 := Kit.byt_get s j hlt
      have hlt' : j < s.data.toList.length := by rw [HDL.out]; exact hlt
      by_cases hp : Cs.prt (s.data.toList.getD j 0) = true
      · have HN := Lib.hid (all_snocP hlt' HA.out hp)
        obtain ⟨h1, h2⟩ := (Cs.prt_iff _).1 hp
        have h1' : ¬ ((Cs.byt s.data.toList j : Nat) : Int) < 32 := by unfold Cs.byt; omega
        have h2' : ¬ (126 : Int) < ((Cs.byt s.data.toList j : Nat) : Int) := by unfold Cs.byt; omega
        generalize Cs.byt s.data.toList j = x at *
        clear hp h1 h2 hlt'
        go_wp2_with fail
        go_roundw
        case rel => exact ⟨j + 1, by omega, by go_num, HN, hbw⟩
        case measure => simp [intOf]; omega
      · have hp' : Cs.prt (s.data.toList.getD j 0) = false := by simpa using hp
        have HN := Lib.hid (show Cs.allP s.data.toList = false from all_failP hlt' hp')
        have h1' : ((Cs.byt s.data.toList j : Nat) : Int) < 32 ∨ (126 : Int) < ((Cs.byt s.data.toList j : Nat) : Int) ∧ ¬ ((Cs.byt s.data.toList j : Nat) : Int) < 32 := by
          have hn : ¬ (32 ≤ (s.data.toList.getD j 0).toNat ∧ (s.data.toList.getD j 0).toNat ≤ 126) := fun h => hp ((Cs.prt_iff _).2 h)
          unfold Cs.byt
          omega
        generalize Cs.byt s.data.toList j = x at *
        clear hp hp' hlt'
        rcases h1' with h | ⟨h, h'⟩
        all_goals
          go_wp2_with fail
          go_ret
          rw [HN.out]
          exact ⟨rfl, hbw⟩
    · obtain rfl : j = s.size := by omega
      have ha := HA.out
      rw [List.take_of_length_le (by rw [HDL.out]; omega)] at ha
      have HH := Lib.hid (show Cs.allP s.data.toList = true from ha)
      clear ha
      go_wp2_with fail
      go_ret
      rw [HH.out]
      exact ⟨rfl, hbw⟩

set_option maxHeartbeats 1600000 in
/-- udfstring.Entity$1. -/
theorem clo_any (z : Int) (h0 : 0 ≤ z) (h1 : z ≤ 65536) (w : World) : Calls Tryd.prog 48 #[.int .i64 z] w fun e w' => e = .returned (.string ⟨(List.replicate z.toNat 0).toArray⟩) ∧ Below w.heap.size w w' := by
  have CZ := Lib.hid (fun W => zeros_any z h0 h1 W)
  generalize List.replicate z.toNat (0 : UInt8) = r at *
  go_enter Tryd.func48, Tryd.ntmps48
  go_wp2_with fail
  with_reducible refine (CZ.out _).mono ?_
  rintro e w2 ⟨rfl, hb2⟩
  go_wp2_with fail
  go_ret
  exact ⟨rfl, hb2⟩

set_option maxHeartbeats 1600000 in
set_option maxRecDepth 100000 in
/-- udfstring.Entity. -/
theorem entity_any (i s : ByteArray) (w : World) (hi : i.size ≤ 9223372036854775807) (hs : s.size ≤ 9223372036854775807) :
    Calls Tryd.prog 24 #[.string i, .string s] w fun e w' => e = .returned (.tuple #[.string ⟨(Cs.entR i.data.toList s.data.toList).1.toArray⟩, .int .i64 (Cs.entR i.data.toList s.data.toList).2]) ∧ Below w.heap.size w w' := by
  have hdi := Kit.len_size i
  have hds := Kit.len_size s
  have cP := fun W => printable_any i W hi
  by_cases hid : Cs.idR i.data.toList = true
  case neg =>
    have HR := Lib.hid (show Cs.entR i.data.toList s.data.toList = ([], 1) from if_neg (fun h => hid h.1))
    have hid' : Cs.idR i.data.toList = false := by simpa using hid
    rw [hid'] at cP
    have CP := Lib.hid cP
    clear cP hid hid' hdi hds
    go_enter Tryd.func24, Tryd.ntmps24
    go_wp2_with fail
    with_reducible refine (CP.out _).mono ?_
    rintro e w2 ⟨rfl, hb2⟩
    go_wp2_with fail
    go_ret2
    rw [HR.out]
    exact ⟨rfl, hb2⟩
  case pos =>
  rw [hid] at cP
  have CP := Lib.hid cP
  by_cases h8 : s.size ≤ 8
  case neg =>
    have HR := Lib.hid (show Cs.entR i.data.toList s.data.toList = ([], 1) from if_neg (fun h => by rw [hds] at h; exact h8 h.2))
    have h8' : (8 : Int) < (s.size : Int) := by omega
    clear cP hid hdi hds h8
    go_enter Tryd.func24, Tryd.ntmps24
    go_wp2_with fail
    with_reducible refine (CP.out _).mono ?_
    rintro e w2 ⟨rfl, hb2⟩
    go_wp2_with fail
    go_ret2
    rw [HR.out]
    exact ⟨rfl, hb2⟩
  case pos =>
  obtain ⟨hl1, hl2⟩ := Cs.idR_len hid
  rw [hdi] at hl1 hl2
  have hR := (show Cs.entR i.data.toList s.data.toList = (0 :: i.data.toList ++ List.replicate (23 - i.size) 0 ++ s.data.toList ++ List.replicate (8 - s.size) 0, 0) by
    unfold Cs.entR
    rw [if_pos ⟨hid, by rw [hds]; exact h8⟩, hdi, hds])
  have hz1 : (List.replicate (23 - i.size) (0 : UInt8)).length ≤ 23 := by simp
  have hz2 : (List.replicate (8 - s.size) (0 : UInt8)).length ≤ 8 := by simp
  have cZ1 := fun W => clo_any (23 - (i.size : Int)) (by omega) (by omega) W
  have cZ2 := fun W => clo_any (8 - (s.size : Int)) (by omega) (by omega) W
  rw [show (23 - (i.size : Int)).toNat = 23 - i.size by omega] at cZ1
  rw [show (8 - (s.size : Int)).toNat = 8 - s.size by omega] at cZ2
  generalize List.replicate (23 - i.size) (0 : UInt8) = r1 at *
  generalize List.replicate (8 - s.size) (0 : UInt8) = r2 at *
  have HR := Lib.hid hR
  clear hR
  have CZ1 := Lib.hid cZ1; have CZ2 := Lib.hid cZ2
  clear cZ1 cZ2
  have h8' : ¬ (8 : Int) < (s.size : Int) := by omega
  clear cP hid hdi hds
  go_enter Tryd.func24, Tryd.ntmps24
  go_wp2_with fail
  with_reducible refine (CP.out _).mono ?_
  rintro e w2 ⟨rfl, hb2⟩
  go_wp2_with fail
  with_reducible refine (CZ1.out _).mono ?_
  rintro e w3 ⟨rfl, hb3⟩
  have hc3 := hb2.trans (hb3.mono hb2.size)
  go_wp2_with fail
  with_reducible refine (CZ2.out _).mono ?_
  rintro e w4 ⟨rfl, hb4⟩
  have hc4 := hc3.trans (hb4.mono hc3.size)
  go_wp2_with fail
  go_ret2
  rw [HR.out]
  refine ⟨?_, hc4⟩
  with_reducible refine congrArg Ending.returned ?_
  simp
  apply ByteArray.ext
  simp [ByteArray.data_append]
set_option maxHeartbeats 1600000 in
set_option maxRecDepth 100000 in
/-- masterdiscref32.Entity. -/
theorem rEntity_any (i s : ByteArray) (w : World) (hi : i.size ≤ 9223372036854775807) (hs : s.size ≤ 9223372036854775807) :
    Calls Tryd.prog 25 #[.string i, .string s] w fun e w' => e = .returned (.tuple #[.string ⟨(Cs.entR i.data.toList s.data.toList).1.toArray⟩, .int .i64 (Cs.entR i.data.toList s.data.toList).2]) ∧ Below w.heap.size w w' := by
  have hdi := Kit.len_size i
  have hds := Kit.len_size s
  have cP := fun W => rPrintable_any i W hi
  have hno : Cs.idR i.data.toList = false → Cs.entR i.data.toList s.data.toList = ([], 1) := fun h => if_neg (fun k => by rw [h] at k; cases k.1)
  by_cases g1 : i.size < 1
  · have HR := Lib.hid (hno (by unfold Cs.idR; rw [hdi, decide_eq_false (by omega)]; rfl))
    have g1' : (i.size : Int) < 1 := by omega
    clear cP hno hdi hds
    go_enter Tryd.func25, Tryd.ntmps25
    go_wp2_with fail
    go_ret2
    rw [HR.out]
    exact ⟨rfl, Below.refl _ _⟩
  have g1' : ¬ (i.size : Int) < 1 := by omega
  by_cases g2 : 23 < i.size
  · have HR := Lib.hid (hno (by unfold Cs.idR; rw [hdi, decide_eq_false (show ¬ i.size ≤ 23 by omega)]; simp))
    have g2' : (23 : Int) < (i.size : Int) := by omega
    clear cP hno hdi hds
    go_enter Tryd.func25, Tryd.ntmps25
    go_wp2_with fail
    go_ret2
    rw [HR.out]
    exact ⟨rfl, Below.refl _ _⟩
  have g2' : ¬ (23 : Int) < (i.size : Int) := by omega
  have hip : Cs.idR i.data.toList = Cs.allP i.data.toList := by
    unfold Cs.idR Cs.allP
    rw [hdi, decide_eq_true (by omega), decide_eq_true (by omega)]
    rfl
  rw [← hip] at cP
  clear hip
  by_cases hid : Cs.idR i.data.toList = true
  case neg =>
    have hid' : Cs.idR i.data.toList = false := by simpa using hid
    have HR := Lib.hid (hno hid')
    rw [hid'] at cP
    have CP := Lib.hid cP
    clear cP hid hid' hno hdi hds
    go_enter Tryd.func25, Tryd.ntmps25
    go_wp2_with fail
    with_reducible refine (CP.out _).mono ?_
    rintro e w2 ⟨rfl, hb2⟩
    go_wp2_with fail
    go_ret2
    rw [HR.out]
    exact ⟨rfl, hb2⟩
  case pos =>
  rw [hid] at cP
  have CP := Lib.hid cP
  by_cases h8 : s.size ≤ 8
  case neg =>
    have HR := Lib.hid (show Cs.entR i.data.toList s.data.toList = ([], 1) from if_neg (fun h => by rw [hds] at h; exact h8 h.2))
    have h8' : (8 : Int) < (s.size : Int) := by omega
    clear cP hid hno hdi hds h8
    go_enter Tryd.func25, Tryd.ntmps25
    go_wp2_with fail
    with_reducible refine (CP.out _).mono ?_
    rintro e w2 ⟨rfl, hb2⟩
    go_wp2_with fail
    go_ret2
    rw [HR.out]
    exact ⟨rfl, hb2⟩
  case pos =>
  obtain ⟨hl1, hl2⟩ := Cs.idR_len hid
  rw [hdi] at hl1 hl2
  have hR := (show Cs.entR i.data.toList s.data.toList = (0 :: i.data.toList ++ List.replicate (23 - i.size) 0 ++ s.data.toList ++ List.replicate (8 - s.size) 0, 0) by
    unfold Cs.entR
    rw [if_pos ⟨hid, by rw [hds]; exact h8⟩, hdi, hds])
  have hz1 : (List.replicate (23 - i.size) (0 : UInt8)).length ≤ 23 := by simp
  have hz2 : (List.replicate (8 - s.size) (0 : UInt8)).length ≤ 8 := by simp
  have cZ1 := fun W => vZeros_any (23 - (i.size : Int)) (by omega) (by omega) W
  have cZ2 := fun W => vZeros_any (8 - (s.size : Int)) (by omega) (by omega) W
  rw [show (23 - (i.size : Int)).toNat = 23 - i.size by omega] at cZ1
  rw [show (8 - (s.size : Int)).toNat = 8 - s.size by omega] at cZ2
  generalize List.replicate (23 - i.size) (0 : UInt8) = r1 at *
  generalize List.replicate (8 - s.size) (0 : UInt8) = r2 at *
  have HR := Lib.hid hR
  clear hR
  have CZ1 := Lib.hid cZ1; have CZ2 := Lib.hid cZ2
  clear cZ1 cZ2
  have h8' : ¬ (8 : Int) < (s.size : Int) := by omega
  clear cP hid hno hdi hds
  go_enter Tryd.func25, Tryd.ntmps25
  go_wp2_with fail
  with_reducible refine (CP.out _).mono ?_
  rintro e w2 ⟨rfl, hb2⟩
  go_wp2_with fail
  with_reducible refine (CZ1.out _).mono ?_
  rintro e w3 ⟨rfl, hb3⟩
  have hc3 := hb2.trans (hb3.mono hb2.size)
  go_wp2_with fail
  with_reducible refine (CZ2.out _).mono ?_
  rintro e w4 ⟨rfl, hb4⟩
  have hc4 := hc3.trans (hb4.mono hc3.size)
  go_wp2_with fail
  go_ret2
  rw [HR.out]
  refine ⟨?_, hc4⟩
  with_reducible refine congrArg Ending.returned ?_
  simp
  apply ByteArray.ext
  simp [ByteArray.data_append]
end Go.Proofs.YtfdlnhflgiemiaaDoor

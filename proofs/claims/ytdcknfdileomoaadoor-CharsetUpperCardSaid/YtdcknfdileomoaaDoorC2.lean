/-
  The walks through the reference's classes of characters: D, among, DCharacters, ACharacters.
-/
import Derived.Test.YtdcknfdileomoaaDoorC1
namespace Go.Proofs.YtdcknfdileomoaaDoor
open Go.RowKit

set_option maxHeartbeats 1600000 in
/-- masterdiscref17.D. -/
theorem rD_any (n : Nat) (w : World) : Calls Tryd.prog 49 #[.int .u8 (n : Int)] w fun e w' => e = .returned (.bool (Cs.dch n)) ∧ w = w' := by
  have hcase : n < 48 ∨ (48 ≤ n ∧ n ≤ 57) ∨ (57 < n ∧ n < 65) ∨ (65 ≤ n ∧ n ≤ 90) ∨ (90 < n ∧ n < 95) ∨ n = 95 ∨ 95 < n := by omega
  rcases hcase with h | h | h | h | h | h | h
  · rw [dch_false (by omega)]
    have h1 : (n : Int) < 65 := by omega
    have h2 : (n : Int) < 48 := by omega
    have h3 : ((n : Int) == 95) = false := by rw [beq_eq_false_iff_ne]; omega
    go_enter Tryd.func49, Tryd.ntmps49
    go_wp2
    go_ret
    first | exact ⟨rfl, rfl⟩ | (refine ⟨congrArg (fun b => Ending.returned (.bool b)) ?_, rfl⟩; simp; omega)
  · rw [dch_true (by omega)]
    have h1 : (n : Int) < 65 := by omega
    have h2 : (48 : Int) ≤ n := by omega
    have h3 : (n : Int) ≤ 57 := by omega
    go_enter Tryd.func49, Tryd.ntmps49
    go_wp2
    go_ret
    first | exact ⟨rfl, rfl⟩ | (refine ⟨congrArg (fun b => Ending.returned (.bool b)) ?_, rfl⟩; simp; omega)
  · rw [dch_false (by omega)]
    have h1 : (n : Int) < 65 := by omega
    have h2 : (57 : Int) < n := by omega
    have h3 : ((n : Int) == 95) = false := by rw [beq_eq_false_iff_ne]; omega
    go_enter Tryd.func49, Tryd.ntmps49
    go_wp2
    go_ret
    first | exact ⟨rfl, rfl⟩ | (refine ⟨congrArg (fun b => Ending.returned (.bool b)) ?_, rfl⟩; simp; omega)
  · rw [dch_true (by omega)]
    have h2 : (65 : Int) ≤ n := by omega
    have h3 : (n : Int) ≤ 90 := by omega
    go_enter Tryd.func49, Tryd.ntmps49
    go_wp2
    go_ret
    first | exact ⟨rfl, rfl⟩ | (refine ⟨congrArg (fun b => Ending.returned (.bool b)) ?_, rfl⟩; simp; omega)
  · rw [dch_false (by omega)]
    have h1 : (90 : Int) < n := by omega
    have h3 : ((n : Int) == 95) = false := by rw [beq_eq_false_iff_ne]; omega
    go_enter Tryd.func49, Tryd.ntmps49
    go_wp2
    go_ret
    first | exact ⟨rfl, rfl⟩ | (refine ⟨congrArg (fun b => Ending.returned (.bool b)) ?_, rfl⟩; simp; omega)
  · rw [dch_true (by omega)]
    have h1 : (90 : Int) < n := by omega
    have h3 : ((n : Int) == 95) = true := by rw [beq_iff_eq]; omega
    go_enter Tryd.func49, Tryd.ntmps49
    go_wp2
    go_ret
    first | exact ⟨rfl, rfl⟩ | (refine ⟨congrArg (fun b => Ending.returned (.bool b)) ?_, rfl⟩; simp; omega)
  · rw [dch_false (by omega)]
    have h1 : (90 : Int) < n := by omega
    have h3 : ((n : Int) == 95) = false := by rw [beq_eq_false_iff_ne]; omega
    go_enter Tryd.func49, Tryd.ntmps49
    go_wp2
    go_ret
    first | exact ⟨rfl, rfl⟩ | (refine ⟨congrArg (fun b => Ending.returned (.bool b)) ?_, rfl⟩; simp; omega)


theorem any_snoc {b : UInt8} {l : List UInt8} {i : Nat} (hi : i < l.length) (h : ((l.take i).any fun x => x == b) = false) (hp : (l.getD i 0 == b) = false) : ((l.take (i + 1)).any fun x => x == b) = false := by
  rw [List.take_succ_eq_append_getElem hi, List.any_append, h]
  simp only [List.getD, List.getElem?_eq_getElem hi, Option.getD_some] at hp
  simp only [List.any_cons, List.any_nil, hp, Bool.or_self]
theorem any_hit {b : UInt8} {l : List UInt8} {i : Nat} (hi : i < l.length) (hp : (l.getD i 0 == b) = true) : (l.any fun x => x == b) = true :=
  List.any_eq_true.2 ⟨l.getD i 0, by simp [List.getD, hi], hp⟩
theorem byte_eq {b : UInt8} {l : List UInt8} {i : Nat} {r : Bool} (h : (l.getD i 0 == b) = r) : (((Cs.byt l i : Nat) : Int) == ((b.toNat : Nat) : Int)) = r := by
  rw [← h]
  unfold Cs.byt
  rw [Bool.eq_iff_iff, beq_iff_eq, beq_iff_eq]
  constructor
  · intro e
    apply UInt8.toNat_inj.1
    omega
  · intro e; rw [e]

set_option maxHeartbeats 1600000 in
set_option maxRecDepth 100000 in
/-- masterdiscref17.among. -/
theorem among_any (b : UInt8) (s : ByteArray) (w : World) (hs : s.size ≤ 9223372036854775807) : Calls Tryd.prog 52 #[.int .u8 (b.toNat : Int), .string s] w fun e w' => e = .returned (.bool (s.data.toList.any fun x => x == b)) ∧ w = w' := by
  have hdl := Kit.len_size s
  have HDL := Lib.hid hdl
  clear hdl
  go_enter Tryd.func52, Tryd.ntmps52
  go_wp2_with fail
  go_loopw [5] (fun iv wr => ∃ i : Nat, i ≤ s.size ∧ iv = .int .i64 i ∧ Hid (((s.data.toList.take i).any fun x => x == b) = false) ∧ w = wr) (fun iv _ => s.size - (intOf iv).toNat)
  case atStart => exact ⟨0, by omega, rfl, Lib.hid rfl, rfl⟩
  case round =>
    obtain ⟨i, hi, rfl, HA, rfl⟩ := hrel
    by_cases hlt : i < s.size
    · have b0 := Kit.byt_get s i hlt
      by_cases he : (s.data.toList.getD i 0 == b) = true
      · have HN := Lib.hid (any_hit (by rw [HDL.out]; exact hlt) he)
        have hq := byte_eq he
        clear he
        go_wp2_with fail
        go_ret
        rw [HN.out]
        exact ⟨rfl, rfl⟩
      · have he' : (s.data.toList.getD i 0 == b) = false := by simpa using he
        have HN := Lib.hid (any_snoc (by rw [HDL.out]; exact hlt) HA.out he')
        have hq := byte_eq he'
        clear he he'
        go_wp2_with fail
        go_roundw
        case rel => exact ⟨i + 1, by omega, by go_num, HN, by first | rfl | trivial⟩
        case measure => simp [intOf]; omega
    · obtain rfl : i = s.size := by omega
      have ha := HA.out
      rw [← HDL.out, List.take_length] at ha
      have HH := Lib.hid ha
      clear ha
      go_wp2_with fail
      go_ret
      rw [HH.out]
      exact ⟨rfl, rfl⟩

set_option maxHeartbeats 1600000 in
set_option maxRecDepth 100000 in
/-- masterdiscref17.DCharacters. -/
theorem rDchars_any (s : ByteArray) (w : World) (hs : s.size ≤ 9223372036854775807) :
    Calls Tryd.prog 18 #[.string s] w fun e w' => e = .returned (.bool (allR (fun b => Cs.dch b.toNat) s.data.toList)) ∧ w = w' := by
  have hdl := Kit.len_size s
  have HL := Lib.hid (fun h : 65536 < s.size => allR_long (p := (fun b => Cs.dch b.toNat)) (l := s.data.toList) (by omega))
  have HR := Lib.hid (fun h : s.size ≤ 65536 => allR_short (p := (fun b => Cs.dch b.toNat)) (l := s.data.toList) (by omega))
  have HNO := Lib.hid (fun (h : s.data.toList.all (fun b => Cs.dch b.toNat) = false) => show allR (fun b => Cs.dch b.toNat) s.data.toList = false by unfold allR; rw [h]; simp)
  have HDL := Lib.hid hdl
  clear hdl
  go_enter Tryd.func18, Tryd.ntmps18
  go_wp2_with fail
  go_loopw [3] (fun iv wr => ∃ i : Nat, i ≤ s.size ∧ i ≤ 65537 ∧ iv = .int .i64 i ∧ Hid ((s.data.toList.take i).all (fun b => Cs.dch b.toNat) = true) ∧ w = wr) (fun iv _ => s.size - (intOf iv).toNat)
  case atStart => exact ⟨0, by omega, by omega, rfl, Lib.hid rfl, rfl⟩
  case round =>
    obtain ⟨i, hi, hi2, rfl, HA, rfl⟩ := hrel
    by_cases hlt : i < s.size
    · by_cases h65 : i ≤ 65536
      case neg =>
        have h65' : ¬ (i : Int) ≤ 65536 := by omega
        have h66 : ¬ (s.size : Int) ≤ 65536 := by omega
        have HH := Lib.hid (HL.out (by omega))
        go_wp2_with fail
        go_ret
        rw [HH.out]
        exact ⟨rfl, rfl⟩
      have h65' : (i : Int) ≤ 65536 := by omega
      have b0 := Kit.byt_get s i hlt
      have CD := Lib.hid (fun W => rD_any (Cs.byt s.data.toList i) W)
      by_cases hd : Cs.dch (Cs.byt s.data.toList i) = true
      · have HN := Lib.hid (all_snoc (p := (fun b => Cs.dch b.toNat)) (by rw [HDL.out]; exact hlt) HA.out hd)
        rw [hd] at CD
        clear hd
        generalize Cs.byt s.data.toList i = c at *
        go_wp2_with fail
        with_reducible refine (CD.out _).mono ?_
        rintro e w2 ⟨rfl, rfl⟩
        go_wp2_with fail
        go_roundw
        case rel => exact ⟨i + 1, by omega, by omega, by go_num, HN, by first | rfl | trivial⟩
        case measure => simp [intOf]; omega
      have hd' : Cs.dch (Cs.byt s.data.toList i) = false := by simpa using hd
      have HN := Lib.hid (HNO.out (all_fail (p := (fun b => Cs.dch b.toNat)) (by rw [HDL.out]; exact hlt) hd'))
      rw [hd'] at CD
      clear hd hd'
      generalize Cs.byt s.data.toList i = c at *
      go_wp2_with fail
      with_reducible refine (CD.out _).mono ?_
      rintro e w2 ⟨rfl, rfl⟩
      go_wp2_with fail
      go_ret
      rw [HN.out]
      exact ⟨rfl, rfl⟩
    · obtain rfl : i = s.size := by omega
      have ha := HA.out
      rw [← HDL.out, List.take_length] at ha
      by_cases h65 : s.size ≤ 65536
      · have HH := Lib.hid ((HR.out h65).trans ha)
        have h66 : (s.size : Int) ≤ 65536 := by omega
        clear ha
        go_wp2_with fail
        go_ret
        rw [HH.out]
        first | exact ⟨rfl, rfl⟩ | (refine ⟨congrArg (fun b => Ending.returned (.bool b)) ?_, rfl⟩; simp; omega)
      · have HH := Lib.hid (HL.out (by omega))
        have h66 : ¬ (s.size : Int) ≤ 65536 := by omega
        clear ha
        go_wp2_with fail
        go_ret
        rw [HH.out]
        first | exact ⟨rfl, rfl⟩ | (refine ⟨congrArg (fun b => Ending.returned (.bool b)) ?_, rfl⟩; simp; omega)

set_option maxHeartbeats 1600000 in
set_option maxRecDepth 100000 in
/-- masterdiscref17.ACharacters. -/
theorem rAchars_any (s : ByteArray) (w : World) (hs : s.size ≤ 9223372036854775807) :
    Calls Tryd.prog 20 #[.string s] w fun e w' => e = .returned (.bool (allR Cs.ach s.data.toList)) ∧ w = w' := by
  have hdl := Kit.len_size s
  have HL := Lib.hid (fun h : 65536 < s.size => allR_long (p := Cs.ach) (l := s.data.toList) (by omega))
  have HR := Lib.hid (fun h : s.size ≤ 65536 => allR_short (p := Cs.ach) (l := s.data.toList) (by omega))
  have HNO := Lib.hid (fun (h : s.data.toList.all Cs.ach = false) => show allR Cs.ach s.data.toList = false by unfold allR; rw [h]; simp)
  have HDL := Lib.hid hdl
  clear hdl
  go_enter Tryd.func20, Tryd.ntmps20
  go_wp2_with fail
  go_loopw [3] (fun iv wr => ∃ i : Nat, i ≤ s.size ∧ i ≤ 65537 ∧ iv = .int .i64 i ∧ Hid ((s.data.toList.take i).all Cs.ach = true) ∧ w = wr) (fun iv _ => s.size - (intOf iv).toNat)
  case atStart => exact ⟨0, by omega, by omega, rfl, Lib.hid rfl, rfl⟩
  case round =>
    obtain ⟨i, hi, hi2, rfl, HA, rfl⟩ := hrel
    by_cases hlt : i < s.size
    · by_cases h65 : i ≤ 65536
      case neg =>
        have h65' : ¬ (i : Int) ≤ 65536 := by omega
        have h66 : ¬ (s.size : Int) ≤ 65536 := by omega
        have HH := Lib.hid (HL.out (by omega))
        go_wp2_with fail
        go_ret
        rw [HH.out]
        exact ⟨rfl, rfl⟩
      have h65' : (i : Int) ≤ 65536 := by omega
      have b0 := Kit.byt_get s i hlt
      have CD := Lib.hid (fun W => rD_any (Cs.byt s.data.toList i) W)
      have hbe : (s.data.toList.getD i 0).toNat = Cs.byt s.data.toList i := rfl
      have cE : ∀ W, Calls Tryd.prog 52 #[.int .u8 ((Cs.byt s.data.toList i : Nat) : Int), .string ⟨#[32, 33, 34, 37, 38, 39, 40, 41, 42, 43, 44, 45, 46, 47, 58, 59, 60, 61, 62, 63]⟩] W fun e w' => e = .returned (.bool (Cs.och (s.data.toList.getD i 0))) ∧ W = w' :=
        fun W => among_any (s.data.toList.getD i 0) ⟨#[32, 33, 34, 37, 38, 39, 40, 41, 42, 43, 44, 45, 46, 47, 58, 59, 60, 61, 62, 63]⟩ W (by decide)
      have CE := Lib.hid cE
      clear cE
      by_cases hd : Cs.dch (Cs.byt s.data.toList i) = true
      · have HN := Lib.hid (all_snoc (p := Cs.ach) (by rw [HDL.out]; exact hlt) HA.out (by unfold Cs.ach; rw [hbe, hd]; rfl))
        rw [hd] at CD
        clear hd hbe
        generalize Cs.byt s.data.toList i = c at *
        go_wp2_with fail
        with_reducible refine (CD.out _).mono ?_
        rintro e w2 ⟨rfl, rfl⟩
        go_wp2_with fail
        go_roundw
        case rel => exact ⟨i + 1, by omega, by omega, by go_num, HN, by first | rfl | trivial⟩
        case measure => simp [intOf]; omega
      have hd' : Cs.dch (Cs.byt s.data.toList i) = false := by simpa using hd
      by_cases he : Cs.och (s.data.toList.getD i 0) = true
      · have HN := Lib.hid (all_snoc (p := Cs.ach) (by rw [HDL.out]; exact hlt) HA.out (by unfold Cs.ach; rw [he]; simp))
        rw [hd'] at CD
        rw [he] at CE
        clear hd hd' he hbe
        generalize Cs.byt s.data.toList i = c at *
        go_wp2_with fail
        with_reducible refine (CD.out _).mono ?_
        rintro e w2 ⟨rfl, rfl⟩
        go_wp2_with fail
        with_reducible refine (CE.out _).mono ?_
        rintro e w2 ⟨rfl, rfl⟩
        go_wp2_with fail
        go_roundw
        case rel => exact ⟨i + 1, by omega, by omega, by go_num, HN, by first | rfl | trivial⟩
        case measure => simp [intOf]; omega
      have he' : Cs.och (s.data.toList.getD i 0) = false := by simpa using he
      have HN := Lib.hid (HNO.out (all_fail (p := Cs.ach) (by rw [HDL.out]; exact hlt) (by unfold Cs.ach; rw [he', hbe, hd']; rfl)))
      rw [hd'] at CD
      rw [he'] at CE
      clear hd hd' he he' hbe
      generalize Cs.byt s.data.toList i = c at *
      go_wp2_with fail
      with_reducible refine (CD.out _).mono ?_
      rintro e w2 ⟨rfl, rfl⟩
      go_wp2_with fail
      with_reducible refine (CE.out _).mono ?_
      rintro e w2 ⟨rfl, rfl⟩
      go_wp2_with fail
      go_ret
      rw [HN.out]
      exact ⟨rfl, rfl⟩
    · obtain rfl : i = s.size := by omega
      have ha := HA.out
      rw [← HDL.out, List.take_length] at ha
      by_cases h65 : s.size ≤ 65536
      · have HH := Lib.hid ((HR.out h65).trans ha)
        have h66 : (s.size : Int) ≤ 65536 := by omega
        clear ha
        go_wp2_with fail
        go_ret
        rw [HH.out]
        first | exact ⟨rfl, rfl⟩ | (refine ⟨congrArg (fun b => Ending.returned (.bool b)) ?_, rfl⟩; simp; omega)
      · have HH := Lib.hid (HL.out (by omega))
        have h66 : ¬ (s.size : Int) ≤ 65536 := by omega
        clear ha
        go_wp2_with fail
        go_ret
        rw [HH.out]
        first | exact ⟨rfl, rfl⟩ | (refine ⟨congrArg (fun b => Ending.returned (.bool b)) ?_, rfl⟩; simp; omega)
end Go.Proofs.YtdcknfdileomoaaDoor

/-
  The walks through the classes of characters: charset.d, all, DCharacters, ACharacters.
-/
import Derived.Test.YtdcknfdileomoaaDoorKit2
import Derived.Test.YtdcknfdileomoaaDoorCh
import Derived.Test.YtdcknfdileomoaaDoorShelf
import Derived.Test.YtdcknfdileomoaaDoorW17
namespace Go.Proofs.YtdcknfdileomoaaDoor
open Go.RowKit

theorem dch_true {n : Nat} (h : (65 ≤ n ∧ n ≤ 90) ∨ (48 ≤ n ∧ n ≤ 57) ∨ n = 95) : Cs.dch n = true := by
  unfold Cs.dch
  simp
  omega
theorem dch_false {n : Nat} (h : ¬ ((65 ≤ n ∧ n ≤ 90) ∨ (48 ≤ n ∧ n ≤ 57) ∨ n = 95)) : Cs.dch n = false := by
  unfold Cs.dch
  simp
  omega

set_option maxHeartbeats 1600000 in
/-- charset.d. -/
theorem d_any (n : Nat) (w : World) : Calls Tryd.prog 48 #[.int .u8 (n : Int)] w fun e w' => e = .returned (.bool (Cs.dch n)) ∧ w = w' := by
  have hcase : n < 48 ∨ (48 ≤ n ∧ n ≤ 57) ∨ (57 < n ∧ n < 65) ∨ (65 ≤ n ∧ n ≤ 90) ∨ (90 < n ∧ n < 95) ∨ n = 95 ∨ 95 < n := by omega
  rcases hcase with h | h | h | h | h | h | h
  · rw [dch_false (by omega)]
    have h1 : (n : Int) < 65 := by omega
    have h2 : (n : Int) < 48 := by omega
    have h3 : ((n : Int) == 95) = false := by rw [beq_eq_false_iff_ne]; omega
    go_enter Tryd.func48, Tryd.ntmps48
    go_wp2
    go_ret
    first | exact ⟨rfl, rfl⟩ | (refine ⟨congrArg (fun b => Ending.returned (.bool b)) ?_, rfl⟩; simp; omega)
  · rw [dch_true (by omega)]
    have h1 : (n : Int) < 65 := by omega
    have h2 : (48 : Int) ≤ n := by omega
    have h3 : (n : Int) ≤ 57 := by omega
    go_enter Tryd.func48, Tryd.ntmps48
    go_wp2
    go_ret
    first | exact ⟨rfl, rfl⟩ | (refine ⟨congrArg (fun b => Ending.returned (.bool b)) ?_, rfl⟩; simp; omega)
  · rw [dch_false (by omega)]
    have h1 : (n : Int) < 65 := by omega
    have h2 : (57 : Int) < n := by omega
    have h3 : ((n : Int) == 95) = false := by rw [beq_eq_false_iff_ne]; omega
    go_enter Tryd.func48, Tryd.ntmps48
    go_wp2
    go_ret
    first | exact ⟨rfl, rfl⟩ | (refine ⟨congrArg (fun b => Ending.returned (.bool b)) ?_, rfl⟩; simp; omega)
  · rw [dch_true (by omega)]
    have h2 : (65 : Int) ≤ n := by omega
    have h3 : (n : Int) ≤ 90 := by omega
    go_enter Tryd.func48, Tryd.ntmps48
    go_wp2
    go_ret
    first | exact ⟨rfl, rfl⟩ | (refine ⟨congrArg (fun b => Ending.returned (.bool b)) ?_, rfl⟩; simp; omega)
  · rw [dch_false (by omega)]
    have h1 : (90 : Int) < n := by omega
    have h3 : ((n : Int) == 95) = false := by rw [beq_eq_false_iff_ne]; omega
    go_enter Tryd.func48, Tryd.ntmps48
    go_wp2
    go_ret
    first | exact ⟨rfl, rfl⟩ | (refine ⟨congrArg (fun b => Ending.returned (.bool b)) ?_, rfl⟩; simp; omega)
  · rw [dch_true (by omega)]
    have h1 : (90 : Int) < n := by omega
    have h3 : ((n : Int) == 95) = true := by rw [beq_iff_eq]; omega
    go_enter Tryd.func48, Tryd.ntmps48
    go_wp2
    go_ret
    first | exact ⟨rfl, rfl⟩ | (refine ⟨congrArg (fun b => Ending.returned (.bool b)) ?_, rfl⟩; simp; omega)
  · rw [dch_false (by omega)]
    have h1 : (90 : Int) < n := by omega
    have h3 : ((n : Int) == 95) = false := by rw [beq_eq_false_iff_ne]; omega
    go_enter Tryd.func48, Tryd.ntmps48
    go_wp2
    go_ret
    first | exact ⟨rfl, rfl⟩ | (refine ⟨congrArg (fun b => Ending.returned (.bool b)) ?_, rfl⟩; simp; omega)


theorem all_snoc {p : UInt8 → Bool} {l : List UInt8} {i : Nat} (hi : i < l.length) (h : (l.take i).all p = true) (hp : p (l.getD i 0) = true) : (l.take (i + 1)).all p = true := by
  rw [List.take_succ_eq_append_getElem hi, List.all_append, h]
  simp [List.getD, hi] at hp
  simp [hp]
theorem all_fail {p : UInt8 → Bool} {l : List UInt8} {i : Nat} (hi : i < l.length) (hp : p (l.getD i 0) = false) : l.all p = false := by
  rw [Bool.eq_false_iff]
  intro h
  have := List.all_eq_true.1 h (l.getD i 0) (by simp [List.getD, hi])
  rw [hp] at this
  cases this
/-- All bytes, of a string that is no longer than a text. -/
def allR (p : UInt8 → Bool) (l : List UInt8) : Bool := decide (l.length ≤ 65536) && l.all p
theorem allR_long {p : UInt8 → Bool} {l : List UInt8} (h : 65536 < l.length) : allR p l = false := by
  unfold allR
  simp
  omega
theorem allR_short {p : UInt8 → Bool} {l : List UInt8} (h : l.length ≤ 65536) : allR p l = l.all p := by
  unfold allR
  simp [h]

set_option maxHeartbeats 1600000 in
set_option maxRecDepth 100000 in
/-- charset.all with 1 condition(s). -/
theorem all_one (s : ByteArray) (w : World) (g : Nat) (hc0 : w.cell? ⟨g, 0, none⟩ = some (.func (.func 48) #[] #[])) (hs : s.size ≤ 9223372036854775807) :
    Calls Tryd.prog 47 #[.string s, .slice (some ⟨g, 0, none⟩) 1 1] w fun e w' => e = .returned (.bool (allR (fun b => Cs.dch b.toNat) s.data.toList)) ∧ w = w' := by
  have hdl := Kit.len_size s
  by_cases hl : 65536 < s.size
  · have HR := Lib.hid (allR_long (p := (fun b => Cs.dch b.toNat)) (l := s.data.toList) (by omega))
    have h1' : (65536 : Int) < (s.size : Int) := by omega
    clear hdl hl
    go_enter Tryd.func47, Tryd.ntmps47
    go_wp2_with fail
    go_ret
    rw [HR.out]
    exact ⟨rfl, rfl⟩
  have HR := Lib.hid (allR_short (p := (fun b => Cs.dch b.toNat)) (l := s.data.toList) (by omega))
  have h1' : ¬ (65536 : Int) < (s.size : Int) := by omega
  have HDL := Lib.hid hdl
  clear hdl hl
  go_enter Tryd.func47, Tryd.ntmps47
  go_wp2_with fail
  go_loopw [14] (fun iv wr => ∃ i : Nat, i ≤ s.size ∧ iv = .int .i64 i ∧ Hid ((s.data.toList.take i).all (fun b => Cs.dch b.toNat) = true) ∧ w = wr) (fun iv _ => s.size - (intOf iv).toNat)
  case atStart => exact ⟨0, by omega, rfl, Lib.hid rfl, rfl⟩
  case round =>
    obtain ⟨i, hi, rfl, HA, rfl⟩ := hrel
    by_cases hlt : i < s.size
    · have b0 := Kit.byt_get s i hlt
      have CD := Lib.hid (fun W => d_any (Cs.byt s.data.toList i) W)
      by_cases hd : Cs.dch (Cs.byt s.data.toList i) = true
      · have HN := Lib.hid (all_snoc (p := (fun b => Cs.dch b.toNat)) (by rw [HDL.out]; exact hlt) HA.out hd)
        rw [hd] at CD
        clear hd
        generalize Cs.byt s.data.toList i = c at *
        go_wp2_with fail
        refine wp_loop_rounds 2 ?_
        rw [rounds_succ]
        go_wp2_with fail
        with_reducible refine (CD.out _).mono ?_
        rintro e w2 ⟨rfl, rfl⟩
        go_wp2_with fail
        rw [rounds_succ]
        go_wp2_with fail
        go_roundw
        case rel => exact ⟨i + 1, by omega, by go_num, HN, by first | rfl | trivial⟩
        case measure => simp [intOf]; omega
      · have hd' : Cs.dch (Cs.byt s.data.toList i) = false := by simpa using hd
        have HN := Lib.hid (all_fail (p := (fun b => Cs.dch b.toNat)) (by rw [HDL.out]; exact hlt) hd')
        rw [hd'] at CD
        clear hd hd'
        generalize Cs.byt s.data.toList i = c at *
        go_wp2_with fail
        refine wp_loop_rounds 2 ?_
        rw [rounds_succ]
        go_wp2_with fail
        with_reducible refine (CD.out _).mono ?_
        rintro e w2 ⟨rfl, rfl⟩
        go_wp2_with fail
        rw [rounds_succ]
        go_wp2_with fail
        go_ret
        rw [HR.out, HN.out]
        exact ⟨rfl, rfl⟩
    · obtain rfl : i = s.size := by omega
      have ha := HA.out
      rw [← HDL.out, List.take_length] at ha
      have HH := Lib.hid ha
      clear ha
      go_wp2_with fail
      go_ret
      rw [HR.out, HH.out]
      exact ⟨rfl, rfl⟩

theorem indexByte_neg (l : List UInt8) (c : UInt8) : (l.any fun x => x == c) = false → Lib.indexByte l c = -1 := by
  induction l with
  | nil => intro _; rfl
  | cons b l ih =>
    intro h
    simp only [List.any_cons, Bool.or_eq_false_iff] at h
    unfold Lib.indexByte
    rw [if_neg (by rw [h.1]; simp), ih h.2]
    rfl
theorem indexByte_ge (l : List UInt8) (c : UInt8) : -1 ≤ Lib.indexByte l c := by
  induction l with
  | nil => simp [Lib.indexByte]
  | cons b l ih =>
    unfold Lib.indexByte
    split
    · omega
    · split <;> omega
theorem indexByte_pos (l : List UInt8) (c : UInt8) : (l.any fun x => x == c) = true → 0 ≤ Lib.indexByte l c := by
  induction l with
  | nil => intro h; simp at h
  | cons b l ih =>
    intro h
    have hg := indexByte_ge l c
    unfold Lib.indexByte
    split
    · omega
    · rename_i hb
      simp only [List.any_cons] at h
      rw [Bool.eq_false_iff.2 hb, Bool.false_or] at h
      have := ih h
      split
      · rename_i h1
        rw [beq_iff_eq] at h1
        omega
      · omega

set_option maxHeartbeats 1600000 in
set_option maxRecDepth 100000 in
/-- charset.ACharacters$1. -/
theorem e_any (b : UInt8) (w : World) : Calls Tryd.prog 50 #[.int .u8 (b.toNat : Int)] w fun e w' => e = .returned (.bool (Cs.och b)) ∧ w = w' := by
  have hb : (b.toNat : Int).toNat.toUInt8 = b := by simp
  have cI : Calls Tryd.prog 51 #[.string ⟨#[32, 33, 34, 37, 38, 39, 40, 41, 42, 43, 44, 45, 46, 47, 58, 59, 60, 61, 62, 63]⟩, .int .u8 (b.toNat : Int)] w fun e w' => e = .returned (.int .i64 (Lib.indexByte Cs.others b)) ∧ w' = w := by
    have := Tryd.strings_IndexByte ⟨#[32, 33, 34, 37, 38, 39, 40, 41, 42, 43, 44, 45, 46, 47, 58, 59, 60, 61, 62, 63]⟩ (b.toNat : Int) w
    rw [hb] at this
    exact this
  by_cases h : Cs.och b = true
  · have h0 := indexByte_pos _ _ h
    rw [h]
    generalize Lib.indexByte Cs.others b = x at *
    have CI := Lib.hid cI
    clear cI
    go_enter Tryd.func50, Tryd.ntmps50
    go_wp2_with fail
    with_reducible refine CI.out.mono ?_
    rintro e w2 ⟨rfl, rfl⟩
    go_wp2_with fail
    go_ret
    first | exact ⟨rfl, rfl⟩ | (refine ⟨congrArg (fun b => Ending.returned (.bool b)) ?_, rfl⟩; simp; omega)
  · have h' : Cs.och b = false := by simpa using h
    have h0 := indexByte_neg _ _ h'
    rw [h']
    have hx : Lib.indexByte Cs.others b < 0 := by
      show Lib.indexByte Cs.others b < 0
      rw [show Lib.indexByte Cs.others b = -1 from h0]; decide
    generalize Lib.indexByte Cs.others b = x at *
    have CI := Lib.hid cI
    clear cI h0
    go_enter Tryd.func50, Tryd.ntmps50
    go_wp2_with fail
    with_reducible refine CI.out.mono ?_
    rintro e w2 ⟨rfl, rfl⟩
    go_wp2_with fail
    go_ret
    first | exact ⟨rfl, rfl⟩ | (refine ⟨congrArg (fun b => Ending.returned (.bool b)) ?_, rfl⟩; simp; omega)

set_option maxHeartbeats 1600000 in
set_option maxRecDepth 100000 in
/-- charset.all with 2 condition(s). -/
theorem all_two (s : ByteArray) (w : World) (g : Nat) (hc0 : w.cell? ⟨g, 0, none⟩ = some (.func (.func 48) #[] #[])) (hc1 : w.cell? ⟨g, 1, none⟩ = some (.func (.func 50) #[] #[])) (hs : s.size ≤ 9223372036854775807) :
    Calls Tryd.prog 47 #[.string s, .slice (some ⟨g, 0, none⟩) 2 2] w fun e w' => e = .returned (.bool (allR Cs.ach s.data.toList)) ∧ w = w' := by
  have hdl := Kit.len_size s
  by_cases hl : 65536 < s.size
  · have HR := Lib.hid (allR_long (p := Cs.ach) (l := s.data.toList) (by omega))
    have h1' : (65536 : Int) < (s.size : Int) := by omega
    clear hdl hl
    go_enter Tryd.func47, Tryd.ntmps47
    go_wp2_with fail
    go_ret
    rw [HR.out]
    exact ⟨rfl, rfl⟩
  have HR := Lib.hid (allR_short (p := Cs.ach) (l := s.data.toList) (by omega))
  have h1' : ¬ (65536 : Int) < (s.size : Int) := by omega
  have HDL := Lib.hid hdl
  clear hdl hl
  go_enter Tryd.func47, Tryd.ntmps47
  go_wp2_with fail
  go_loopw [14] (fun iv wr => ∃ i : Nat, i ≤ s.size ∧ iv = .int .i64 i ∧ Hid ((s.data.toList.take i).all Cs.ach = true) ∧ w = wr) (fun iv _ => s.size - (intOf iv).toNat)
  case atStart => exact ⟨0, by omega, rfl, Lib.hid rfl, rfl⟩
  case round =>
    obtain ⟨i, hi, rfl, HA, rfl⟩ := hrel
    by_cases hlt : i < s.size
    · have b0 := Kit.byt_get s i hlt
      have CD := Lib.hid (fun W => d_any (Cs.byt s.data.toList i) W)
      have CE := Lib.hid (fun W => e_any (s.data.toList.getD i 0) W)
      have hbe : (s.data.toList.getD i 0).toNat = Cs.byt s.data.toList i := rfl
      rw [hbe] at CE
      by_cases hd : Cs.dch (Cs.byt s.data.toList i) = true
      · have HN := Lib.hid (all_snoc (p := Cs.ach) (by rw [HDL.out]; exact hlt) HA.out (by unfold Cs.ach; rw [hbe, hd]; rfl))
        rw [hd] at CD
        clear hd hbe
        generalize Cs.byt s.data.toList i = c at *
        go_wp2_with fail
        refine wp_loop_rounds 3 ?_
        rw [rounds_succ]
        go_wp2_with fail
        with_reducible refine (CD.out _).mono ?_
        rintro e w2 ⟨rfl, rfl⟩
        go_wp2_with fail
        rw [rounds_succ]
        go_wp2_with fail
        rw [rounds_succ]
        go_wp2_with fail
        go_roundw
        case rel => exact ⟨i + 1, by omega, by go_num, HN, by first | rfl | trivial⟩
        case measure => simp [intOf]; omega
      have hd' : Cs.dch (Cs.byt s.data.toList i) = false := by simpa using hd
      by_cases he : Cs.och (s.data.toList.getD i 0) = true
      · have HN := Lib.hid (all_snoc (p := Cs.ach) (by rw [HDL.out]; exact hlt) HA.out (by unfold Cs.ach; rw [he]; simp))
        rw [hd'] at CD
        rw [he] at CE
        clear hd hd' he hbe
        generalize Cs.byt s.data.toList i = c at *
        go_wp2_with fail
        refine wp_loop_rounds 3 ?_
        rw [rounds_succ]
        go_wp2_with fail
        with_reducible refine (CD.out _).mono ?_
        rintro e w2 ⟨rfl, rfl⟩
        go_wp2_with fail
        rw [rounds_succ]
        go_wp2_with fail
        with_reducible refine (CE.out _).mono ?_
        rintro e w2 ⟨rfl, rfl⟩
        go_wp2_with fail
        rw [rounds_succ]
        go_wp2_with fail
        go_roundw
        case rel => exact ⟨i + 1, by omega, by go_num, HN, by first | rfl | trivial⟩
        case measure => simp [intOf]; omega
      · have he' : Cs.och (s.data.toList.getD i 0) = false := by simpa using he
        have HN := Lib.hid (all_fail (p := Cs.ach) (by rw [HDL.out]; exact hlt) (by unfold Cs.ach; rw [he', hbe, hd']; rfl))
        rw [hd'] at CD
        rw [he'] at CE
        clear hd hd' he he' hbe
        generalize Cs.byt s.data.toList i = c at *
        go_wp2_with fail
        refine wp_loop_rounds 3 ?_
        rw [rounds_succ]
        go_wp2_with fail
        with_reducible refine (CD.out _).mono ?_
        rintro e w2 ⟨rfl, rfl⟩
        go_wp2_with fail
        rw [rounds_succ]
        go_wp2_with fail
        with_reducible refine (CE.out _).mono ?_
        rintro e w2 ⟨rfl, rfl⟩
        go_wp2_with fail
        rw [rounds_succ]
        go_wp2_with fail
        go_ret
        rw [HR.out, HN.out]
        exact ⟨rfl, rfl⟩
    · obtain rfl : i = s.size := by omega
      have ha := HA.out
      rw [← HDL.out, List.take_length] at ha
      have HH := Lib.hid ha
      clear ha
      go_wp2_with fail
      go_ret
      rw [HR.out, HH.out]
      exact ⟨rfl, rfl⟩

set_option maxHeartbeats 1600000 in
set_option maxRecDepth 100000 in
/-- charset.DCharacters. -/
theorem dchars_any (s : ByteArray) (w : World) (hs : s.size ≤ 9223372036854775807) :
    Calls Tryd.prog 17 #[.string s] w fun e w' => e = .returned (.bool (Cs.dchR s.data.toList)) ∧ Below w.heap.size w w' := by
  go_enter Tryd.func17, Tryd.ntmps17
  go_wp2_with fail
  with_reducible refine (all_one s _ w.heap.size (by rw [World.cell?_alloc_at _ _ _ _ rfl]; simp) hs).mono ?_
  rintro e w2 ⟨rfl, rfl⟩
  go_wp2_with fail
  go_ret
  exact ⟨rfl, (Below.refl _ _).alloc (Nat.le_refl _) _⟩

set_option maxHeartbeats 1600000 in
set_option maxRecDepth 100000 in
/-- charset.ACharacters. -/
theorem achars_any (s : ByteArray) (w : World) (hs : s.size ≤ 9223372036854775807) :
    Calls Tryd.prog 19 #[.string s] w fun e w' => e = .returned (.bool (Cs.achR s.data.toList)) ∧ Below w.heap.size w w' := by
  go_enter Tryd.func19, Tryd.ntmps19
  go_wp2_with fail
  with_reducible refine (all_two s _ w.heap.size (by rw [World.cell?_alloc_at _ _ _ _ rfl]; simp) (by rw [World.cell?_alloc_at _ _ _ _ rfl]; simp) hs).mono ?_
  rintro e w2 ⟨rfl, rfl⟩
  go_wp2_with fail
  go_ret
  exact ⟨rfl, (Below.refl _ _).alloc (Nat.le_refl _) _⟩
end Go.Proofs.YtdcknfdileomoaaDoor

/-
  The walks through the reference's WideField and WideTrim.
-/
import Derived.Test.YtdcknfdileomoaaDoorG5
namespace Go.Proofs.YtdcknfdileomoaaDoor
open Go.RowKit

theorem q2_any (z : Int) (h0 : 0 ≤ z) (h1 : z ≤ 65536) (w : World) : Calls Tryd.prog 54 #[.string ⟨#[0, 32]⟩, .int .i64 z] w fun e w' => e = .returned (.string ⟨(Cs.blanks2 z.toNat).toArray⟩) ∧ Below w.heap.size w w' := by
  have := rRepeat_any ⟨#[0, 32]⟩ z w h1 (by omega) (by decide)
  rw [show (⟨#[0, 32]⟩ : ByteArray).data.toList = [0, 32] from rfl, blanks2_rep] at this
  exact this
theorem q1_any (z : Int) (h0 : 0 ≤ z) (h1 : z ≤ 65536) (w : World) : Calls Tryd.prog 54 #[.string ⟨#[0]⟩, .int .i64 z] w fun e w' => e = .returned (.string ⟨(List.replicate z.toNat 0).toArray⟩) ∧ Below w.heap.size w w' := by
  have := rRepeat_any ⟨#[0]⟩ z w h1 (by omega) (by decide)
  rw [show (⟨#[0]⟩ : ByteArray).data.toList = [0] from rfl, repeatL_one] at this
  exact this

theorem pair_list (l : List UInt8) (n : Nat) (h0 : n < l.length) (h1 : n + 1 < l.length) : (((l.drop n).take 2) == [0, 32]) = (decide (Cs.byt l n = 0) && decide (Cs.byt l (n + 1) = 32)) := by
  have e0 : (l[n]'h0).toNat = Cs.byt l n := by simp [Cs.byt, List.getD, h0]
  have e1 : (l[n + 1]'h1).toNat = Cs.byt l (n + 1) := by simp [Cs.byt, List.getD, h1]
  rw [← e0, ← e1, List.drop_eq_getElem_cons h0, List.drop_eq_getElem_cons h1]
  generalize l[n] = a
  generalize l[n + 1] = b
  rw [Bool.eq_iff_iff]
  simp [← UInt8.toNat_inj]
theorem pair_eq (s : ByteArray) (n : Nat) (h : n + 2 ≤ s.size) : ((s.extract n (n + 2)).toList == [0, 32]) = (decide (Cs.byt s.data.toList n = 0) && decide (Cs.byt s.data.toList (n + 1) = 32)) := by
  have hdl := Kit.len_size s
  rw [Lib.toList_data, Lib.extract_data, show n + 2 - n = 2 by omega]
  exact pair_list _ n (by omega) (by omega)

set_option maxHeartbeats 1600000 in
set_option maxRecDepth 100000 in
/-- masterdiscref17.WideField. -/
theorem rWideField_any (s : ByteArray) (z : Int) (w : World) (hs : s.size ≤ 9223372036854775807) :
    Calls Tryd.prog 32 #[.string s, .int .i64 z] w fun e w' => e = .returned (.tuple #[.string ⟨(Cs.wideFieldR s.data.toList z).1.toArray⟩, .int .i64 (Cs.wideFieldR s.data.toList z).2]) ∧ Below w.heap.size w w' := by
  have cU := rUcs2_any s w hs
  have hR : Cs.wideFieldR s.data.toList z = if ¬ (Cs.ucs2R s.data.toList).2 = 0 then ([], (Cs.ucs2R s.data.toList).2) else if z < 0 ∨ 65536 < z then ([], 2) else if z < (Cs.ucs2R s.data.toList).1.length then ([], 12)
      else ((Cs.ucs2R s.data.toList).1 ++ Cs.blanks2 ((z.toNat - (Cs.ucs2R s.data.toList).1.length) / 2) ++ List.replicate ((z.toNat - (Cs.ucs2R s.data.toList).1.length) % 2) 0, 0) := rfl
  generalize (Cs.ucs2R s.data.toList).1 = u at *
  generalize (Cs.ucs2R s.data.toList).2 = er at *
  have CU := Lib.hid cU
  clear cU
  by_cases h0 : er = 0
  case neg =>
    rw [if_pos h0] at hR
    have HR := Lib.hid hR
    have h0' : (er != 0) = true := by rw [bne_iff_ne]; exact h0
    clear hR h0
    go_enter Tryd.func32, Tryd.ntmps32
    go_wp2_with fail
    with_reducible refine CU.out.mono ?_
    rintro e w2 ⟨rfl, hb2⟩
    go_wp2_with fail
    go_ret2
    rw [HR.out]
    exact ⟨rfl, hb2⟩
  subst h0
  rw [if_neg (by simp)] at hR
  by_cases h2 : z < 0
  · rw [if_pos (.inl h2)] at hR
    have HR := Lib.hid hR
    clear hR
    go_enter Tryd.func32, Tryd.ntmps32
    go_wp2_with fail
    with_reducible refine CU.out.mono ?_
    rintro e w2 ⟨rfl, hb2⟩
    go_wp2_with fail
    go_ret2
    rw [HR.out]
    exact ⟨rfl, hb2⟩
  by_cases h3 : 65536 < z
  · rw [if_pos (.inr h3)] at hR
    have HR := Lib.hid hR
    clear hR
    go_enter Tryd.func32, Tryd.ntmps32
    go_wp2_with fail
    with_reducible refine CU.out.mono ?_
    rintro e w2 ⟨rfl, hb2⟩
    go_wp2_with fail
    go_ret2
    rw [HR.out]
    exact ⟨rfl, hb2⟩
  rw [if_neg (by omega)] at hR
  by_cases h4 : z < u.length
  · rw [if_pos h4] at hR
    have HR := Lib.hid hR
    clear hR
    go_enter Tryd.func32, Tryd.ntmps32
    go_wp2_with fail
    with_reducible refine CU.out.mono ?_
    rintro e w2 ⟨rfl, hb2⟩
    go_wp2_with fail
    go_ret2
    rw [HR.out]
    exact ⟨rfl, hb2⟩
  rw [if_neg h4] at hR
  obtain ⟨n, rfl⟩ : ∃ n : Nat, z = n := ⟨z.toNat, by omega⟩
  simp only [Int.toNat_natCast] at hR
  have hn : n ≤ 65536 := by omega
  have hu : u.length ≤ n := by omega
  have cZ := fun W => q2_any (((n : Int) - (u.length : Int)) / 2) (by omega) (by omega) W
  rw [show (((n : Int) - (u.length : Int)) / 2).toNat = (n - u.length) / 2 by omega] at cZ
  have hbl := blanks2_len ((n - u.length) / 2)
  have hrl : (List.replicate ((n - u.length) % 2) (0 : UInt8)).length ≤ 1 := by simp; omega
  have hrr : (((n : Int) - ((u.length : Int) + ((Cs.blanks2 ((n - u.length) / 2)).length : Int)))).toNat = (n - u.length) % 2 := by omega
  have cY := fun W => q1_any ((n : Int) - ((u.length : Int) + ((Cs.blanks2 ((n - u.length) / 2)).length : Int))) (by omega) (by omega) W
  rw [hrr] at cY
  have hb2l : u.length + (Cs.blanks2 ((n - u.length) / 2)).length ≤ n := by omega
  generalize Cs.blanks2 ((n - u.length) / 2) = bl at *
  generalize List.replicate ((n - u.length) % 2) (0 : UInt8) = rl at *
  have HR := Lib.hid hR
  have CZ := Lib.hid cZ
  have CY := Lib.hid cY
  clear hR cZ cY hrr hbl
  go_enter Tryd.func32, Tryd.ntmps32
  go_wp2_with fail
  with_reducible refine CU.out.mono ?_
  rintro e w2 ⟨rfl, hb2⟩
  go_wp2_with fail
  with_reducible refine (CZ.out _).mono ?_
  rintro e w3 ⟨rfl, hb3⟩
  go_wp2_with fail
  with_reducible refine (CY.out _).mono ?_
  rintro e w4 ⟨rfl, hb4⟩
  go_wp2_with fail
  go_ret2
  rw [HR.out, Kit.append_mk]
  exact ⟨rfl, (hb2.trans (hb3.mono hb2.size)).trans (hb4.mono (Nat.le_trans hb2.size hb3.size))⟩

set_option maxHeartbeats 1600000 in
set_option maxRecDepth 100000 in
/-- masterdiscref17.WideTrim. -/
theorem rWideTrim_any (s : ByteArray) (w : World) (hs : s.size ≤ 9223372036854775807) :
    Calls Tryd.prog 34 #[.string s] w fun e w' => e = .returned (.tuple #[.string ⟨(Cs.wideTrimR s.data.toList).1.toArray⟩, .int .i64 (Cs.wideTrimR s.data.toList).2]) ∧ Below w.heap.size w w' := by
  have hdl := Kit.len_size s
  by_cases h1 : 65536 < s.size
  · have HR := Lib.hid (show Cs.wideTrimR s.data.toList = ([], 7) from if_pos (by omega))
    have h1' : (65536 : Int) < (s.size : Int) := by omega
    clear hdl h1
    go_enter Tryd.func34, Tryd.ntmps34
    go_wp2_with fail
    go_ret2
    rw [HR.out]
    exact ⟨rfl, Below.refl _ _⟩
  have h1' : ¬ (65536 : Int) < (s.size : Int) := by omega
  have HR := Lib.hid (wideTrim_eq (l := s.data.toList) (by omega))
  have HDL := Lib.hid hdl
  have hcase : (s.size % 2 = 1 ∧ Cs.byt s.data.toList (s.size - 1) = 0) ∨ (s.size % 2 = 1 ∧ Cs.byt s.data.toList (s.size - 1) ≠ 0) ∨ s.size % 2 = 0 := by omega
  have hfull : s = s.extract 0 s.size := by simp
  clear h1 hfull
  rcases hcase with ⟨ho, hb⟩ | ⟨ho, hb⟩ | he
  · have hst : wtStart s.data.toList = s.size - 1 := by
      unfold wtStart
      rw [hdl, if_pos ⟨ho, hb⟩]
    have HST := Lib.hid hst
    have hpos : s.size - 1 < s.size := by omega
    have b0 := Kit.byt_get s (s.size - 1) hpos
    rw [hb] at b0
    have e1 : ((s.size : Int) % 2 == 1) = true := by rw [beq_iff_eq]; omega
    have hidx : ((s.size : Int) - 1).toNat = s.size - 1 := by omega
    have hz : (1 : Int) ≤ (s.size : Int) := by omega
    clear hdl hst hb
    go_enter Tryd.func34, Tryd.ntmps34
    go_wp2_with fail
    go_loopw [4] (fun nv wr => ∃ k : Nat, nv = .int .i64 k ∧ k ≤ s.size ∧ Hid (Cs.wtLen s.data.toList (wtStart s.data.toList) = Cs.wtLen s.data.toList k) ∧ Below w.heap.size w wr) (fun nv _ => (intOf nv).toNat)
    case atStart => exact ⟨s.size - 1, congrArg (Value.int .i64) (by omega), by omega, Lib.hid (by rw [HST.out]), Below.refl _ _⟩
    case round =>
      clear e1
      obtain ⟨k, rfl, hk, HE, hbw⟩ := hrel
      have hxs : (s.extract 0 k).size = k := by simp; omega
      have hxt := Kit.extract_take s k
      have cF := fun W => rFrom_any (s.extract 0 k) W (by omega)
      have hxl : (s.extract 0 k).data.toList = s.data.toList.take k := by rw [hxt]
      rw [hxl] at cF
      by_cases hok : k % 2 = 0 ∧ 2 ≤ k ∧ Cs.byt s.data.toList (k - 2) = 0 ∧ Cs.byt s.data.toList (k - 1) = 32
      · obtain ⟨hk2, hk3, hk4, hk5⟩ := hok
        obtain ⟨n, rfl⟩ : ∃ n, k = n + 2 := ⟨k - 2, by omega⟩
        have HW := Lib.hid (HE.out.trans (wt_yes (l := s.data.toList) (n := n) (by omega) hk4 hk5))
        have hcmp : ((s.extract n (n + 2)).toList == [0, 32]) = true := by
          rw [pair_eq s n hk, show Cs.byt s.data.toList n = 0 from hk4, show Cs.byt s.data.toList (n + 1) = 32 from hk5]; rfl
        have e3 : (((n + 2 : Nat) : Int) % 2 == 0) = true := by rw [beq_iff_eq]; omega
        have e4 : (2 : Int) ≤ ((n + 2 : Nat) : Int) := by omega
        have e5 : (((n + 2 : Nat) : Int) - 2).toNat = n := by omega
        have e6 : ((n + 2 : Nat) : Int) ≤ (s.size : Int) := by omega
        clear cF hxl hxt hk4 hk5 hxs
        go_wp2_with fail
        go_roundw
        case rel => exact ⟨n, by go_num, by omega, HW, hbw⟩
        case measure => simp [intOf]; omega
      · have hstop : Cs.wtLen s.data.toList k = k := by
          match k, hok with
          | 0, _ => rfl
          | 1, _ => rfl
          | n + 2, hok => exact wt_no fun h => hok ⟨by omega, by omega, h.2.1, h.2.2⟩
        have hR := HR.out
        rw [HE.out, hstop] at hR
        have HR2 := Lib.hid hR
        have CF := Lib.hid cF
        have hk6 : (k : Int) ≤ (s.size : Int) := by omega
        by_cases hev : k % 2 = 0
        · have e3 : ((k : Int) % 2 == 0) = true := by rw [beq_iff_eq]; omega
          by_cases h2 : 2 ≤ k
          · obtain ⟨n, rfl⟩ : ∃ n, k = n + 2 := ⟨k - 2, by omega⟩
            have hcmp : ((s.extract n (n + 2)).toList == [0, 32]) = false := by
              rw [pair_eq s n hk, Bool.eq_false_iff]
              intro e
              simp only [Bool.and_eq_true, decide_eq_true_eq] at e
              exact hok ⟨hev, by omega, e.1, e.2⟩
            have e4 : (2 : Int) ≤ ((n + 2 : Nat) : Int) := by omega
            have e5 : (((n + 2 : Nat) : Int) - 2).toNat = n := by omega
            clear cF hxl hxt hR hstop hok
            go_wp2_with fail
            with_reducible refine (CF.out _).mono ?_
            rintro e w3 ⟨rfl, hb3⟩
            go_wp2_with fail
            go_ret2
            rw [HR2.out]
            exact ⟨rfl, hbw.trans (hb3.mono hbw.size)⟩
          · have e4 : ¬ (2 : Int) ≤ (k : Int) := by omega
            clear cF hxl hxt hR hstop hok
            go_wp2_with fail
            with_reducible refine (CF.out _).mono ?_
            rintro e w3 ⟨rfl, hb3⟩
            go_wp2_with fail
            go_ret2
            rw [HR2.out]
            exact ⟨rfl, hbw.trans (hb3.mono hbw.size)⟩
        · clear cF hxl hxt hR hstop hok
          have e3 : ((k : Int) % 2 == 0) = false := by rw [beq_eq_false_iff_ne]; omega
          go_wp2_with fail
          with_reducible refine (CF.out _).mono ?_
          rintro e w3 ⟨rfl, hb3⟩
          go_wp2_with fail
          go_ret2
          rw [HR2.out]
          exact ⟨rfl, hbw.trans (hb3.mono hbw.size)⟩
  · have hst : wtStart s.data.toList = s.size := by
      unfold wtStart
      rw [hdl, if_neg (fun h => hb h.2)]
    have HST := Lib.hid hst
    have hpos : s.size - 1 < s.size := by omega
    have b0 := Kit.byt_get s (s.size - 1) hpos
    have e1 : ((s.size : Int) % 2 == 1) = true := by rw [beq_iff_eq]; omega
    have hidx : ((s.size : Int) - 1).toNat = s.size - 1 := by omega
    have hz : (1 : Int) ≤ (s.size : Int) := by omega
    generalize Cs.byt s.data.toList (s.size - 1) = c at *
    have e2 : ((c : Int) == 0) = false := by rw [beq_eq_false_iff_ne]; omega
    clear hdl hst hb
    go_enter Tryd.func34, Tryd.ntmps34
    go_wp2_with fail
    go_loopw [4] (fun nv wr => ∃ k : Nat, nv = .int .i64 k ∧ k ≤ s.size ∧ Hid (Cs.wtLen s.data.toList (wtStart s.data.toList) = Cs.wtLen s.data.toList k) ∧ Below w.heap.size w wr) (fun nv _ => (intOf nv).toNat)
    case atStart => exact ⟨s.size, congrArg (Value.int .i64) (by omega), by omega, Lib.hid (by rw [HST.out]), Below.refl _ _⟩
    case round =>
      clear e1
      obtain ⟨k, rfl, hk, HE, hbw⟩ := hrel
      have hxs : (s.extract 0 k).size = k := by simp; omega
      have hxt := Kit.extract_take s k
      have cF := fun W => rFrom_any (s.extract 0 k) W (by omega)
      have hxl : (s.extract 0 k).data.toList = s.data.toList.take k := by rw [hxt]
      rw [hxl] at cF
      by_cases hok : k % 2 = 0 ∧ 2 ≤ k ∧ Cs.byt s.data.toList (k - 2) = 0 ∧ Cs.byt s.data.toList (k - 1) = 32
      · obtain ⟨hk2, hk3, hk4, hk5⟩ := hok
        obtain ⟨n, rfl⟩ : ∃ n, k = n + 2 := ⟨k - 2, by omega⟩
        have HW := Lib.hid (HE.out.trans (wt_yes (l := s.data.toList) (n := n) (by omega) hk4 hk5))
        have hcmp : ((s.extract n (n + 2)).toList == [0, 32]) = true := by
          rw [pair_eq s n hk, show Cs.byt s.data.toList n = 0 from hk4, show Cs.byt s.data.toList (n + 1) = 32 from hk5]; rfl
        have e3 : (((n + 2 : Nat) : Int) % 2 == 0) = true := by rw [beq_iff_eq]; omega
        have e4 : (2 : Int) ≤ ((n + 2 : Nat) : Int) := by omega
        have e5 : (((n + 2 : Nat) : Int) - 2).toNat = n := by omega
        have e6 : ((n + 2 : Nat) : Int) ≤ (s.size : Int) := by omega
        clear cF hxl hxt hk4 hk5 hxs
        go_wp2_with fail
        go_roundw
        case rel => exact ⟨n, by go_num, by omega, HW, hbw⟩
        case measure => simp [intOf]; omega
      · have hstop : Cs.wtLen s.data.toList k = k := by
          match k, hok with
          | 0, _ => rfl
          | 1, _ => rfl
          | n + 2, hok => exact wt_no fun h => hok ⟨by omega, by omega, h.2.1, h.2.2⟩
        have hR := HR.out
        rw [HE.out, hstop] at hR
        have HR2 := Lib.hid hR
        have CF := Lib.hid cF
        have hk6 : (k : Int) ≤ (s.size : Int) := by omega
        by_cases hev : k % 2 = 0
        · have e3 : ((k : Int) % 2 == 0) = true := by rw [beq_iff_eq]; omega
          by_cases h2 : 2 ≤ k
          · obtain ⟨n, rfl⟩ : ∃ n, k = n + 2 := ⟨k - 2, by omega⟩
            have hcmp : ((s.extract n (n + 2)).toList == [0, 32]) = false := by
              rw [pair_eq s n hk, Bool.eq_false_iff]
              intro e
              simp only [Bool.and_eq_true, decide_eq_true_eq] at e
              exact hok ⟨hev, by omega, e.1, e.2⟩
            have e4 : (2 : Int) ≤ ((n + 2 : Nat) : Int) := by omega
            have e5 : (((n + 2 : Nat) : Int) - 2).toNat = n := by omega
            clear cF hxl hxt hR hstop hok
            go_wp2_with fail
            with_reducible refine (CF.out _).mono ?_
            rintro e w3 ⟨rfl, hb3⟩
            go_wp2_with fail
            go_ret2
            rw [HR2.out]
            exact ⟨rfl, hbw.trans (hb3.mono hbw.size)⟩
          · have e4 : ¬ (2 : Int) ≤ (k : Int) := by omega
            clear cF hxl hxt hR hstop hok
            go_wp2_with fail
            with_reducible refine (CF.out _).mono ?_
            rintro e w3 ⟨rfl, hb3⟩
            go_wp2_with fail
            go_ret2
            rw [HR2.out]
            exact ⟨rfl, hbw.trans (hb3.mono hbw.size)⟩
        · clear cF hxl hxt hR hstop hok
          have e3 : ((k : Int) % 2 == 0) = false := by rw [beq_eq_false_iff_ne]; omega
          go_wp2_with fail
          with_reducible refine (CF.out _).mono ?_
          rintro e w3 ⟨rfl, hb3⟩
          go_wp2_with fail
          go_ret2
          rw [HR2.out]
          exact ⟨rfl, hbw.trans (hb3.mono hbw.size)⟩
  · have hst : wtStart s.data.toList = s.size := by
      unfold wtStart
      rw [hdl, if_neg (fun h => by omega)]
    have HST := Lib.hid hst
    have e1 : ((s.size : Int) % 2 == 1) = false := by rw [beq_eq_false_iff_ne]; omega
    clear hdl hst
    go_enter Tryd.func34, Tryd.ntmps34
    go_wp2_with fail
    go_loopw [4] (fun nv wr => ∃ k : Nat, nv = .int .i64 k ∧ k ≤ s.size ∧ Hid (Cs.wtLen s.data.toList (wtStart s.data.toList) = Cs.wtLen s.data.toList k) ∧ Below w.heap.size w wr) (fun nv _ => (intOf nv).toNat)
    case atStart => exact ⟨s.size, congrArg (Value.int .i64) (by omega), by omega, Lib.hid (by rw [HST.out]), Below.refl _ _⟩
    case round =>
      clear e1
      obtain ⟨k, rfl, hk, HE, hbw⟩ := hrel
      have hxs : (s.extract 0 k).size = k := by simp; omega
      have hxt := Kit.extract_take s k
      have cF := fun W => rFrom_any (s.extract 0 k) W (by omega)
      have hxl : (s.extract 0 k).data.toList = s.data.toList.take k := by rw [hxt]
      rw [hxl] at cF
      by_cases hok : k % 2 = 0 ∧ 2 ≤ k ∧ Cs.byt s.data.toList (k - 2) = 0 ∧ Cs.byt s.data.toList (k - 1) = 32
      · obtain ⟨hk2, hk3, hk4, hk5⟩ := hok
        obtain ⟨n, rfl⟩ : ∃ n, k = n + 2 := ⟨k - 2, by omega⟩
        have HW := Lib.hid (HE.out.trans (wt_yes (l := s.data.toList) (n := n) (by omega) hk4 hk5))
        have hcmp : ((s.extract n (n + 2)).toList == [0, 32]) = true := by
          rw [pair_eq s n hk, show Cs.byt s.data.toList n = 0 from hk4, show Cs.byt s.data.toList (n + 1) = 32 from hk5]; rfl
        have e3 : (((n + 2 : Nat) : Int) % 2 == 0) = true := by rw [beq_iff_eq]; omega
        have e4 : (2 : Int) ≤ ((n + 2 : Nat) : Int) := by omega
        have e5 : (((n + 2 : Nat) : Int) - 2).toNat = n := by omega
        have e6 : ((n + 2 : Nat) : Int) ≤ (s.size : Int) := by omega
        clear cF hxl hxt hk4 hk5 hxs
        go_wp2_with fail
        go_roundw
        case rel => exact ⟨n, by go_num, by omega, HW, hbw⟩
        case measure => simp [intOf]; omega
      · have hstop : Cs.wtLen s.data.toList k = k := by
          match k, hok with
          | 0, _ => rfl
          | 1, _ => rfl
          | n + 2, hok => exact wt_no fun h => hok ⟨by omega, by omega, h.2.1, h.2.2⟩
        have hR := HR.out
        rw [HE.out, hstop] at hR
        have HR2 := Lib.hid hR
        have CF := Lib.hid cF
        have hk6 : (k : Int) ≤ (s.size : Int) := by omega
        by_cases hev : k % 2 = 0
        · have e3 : ((k : Int) % 2 == 0) = true := by rw [beq_iff_eq]; omega
          by_cases h2 : 2 ≤ k
          · obtain ⟨n, rfl⟩ : ∃ n, k = n + 2 := ⟨k - 2, by omega⟩
            have hcmp : ((s.extract n (n + 2)).toList == [0, 32]) = false := by
              rw [pair_eq s n hk, Bool.eq_false_iff]
              intro e
              simp only [Bool.and_eq_true, decide_eq_true_eq] at e
              exact hok ⟨hev, by omega, e.1, e.2⟩
            have e4 : (2 : Int) ≤ ((n + 2 : Nat) : Int) := by omega
            have e5 : (((n + 2 : Nat) : Int) - 2).toNat = n := by omega
            clear cF hxl hxt hR hstop hok
            go_wp2_with fail
            with_reducible refine (CF.out _).mono ?_
            rintro e w3 ⟨rfl, hb3⟩
            go_wp2_with fail
            go_ret2
            rw [HR2.out]
            exact ⟨rfl, hbw.trans (hb3.mono hbw.size)⟩
          · have e4 : ¬ (2 : Int) ≤ (k : Int) := by omega
            clear cF hxl hxt hR hstop hok
            go_wp2_with fail
            with_reducible refine (CF.out _).mono ?_
            rintro e w3 ⟨rfl, hb3⟩
            go_wp2_with fail
            go_ret2
            rw [HR2.out]
            exact ⟨rfl, hbw.trans (hb3.mono hbw.size)⟩
        · clear cF hxl hxt hR hstop hok
          have e3 : ((k : Int) % 2 == 0) = false := by rw [beq_eq_false_iff_ne]; omega
          go_wp2_with fail
          with_reducible refine (CF.out _).mono ?_
          rintro e w3 ⟨rfl, hb3⟩
          go_wp2_with fail
          go_ret2
          rw [HR2.out]
          exact ⟨rfl, hbw.trans (hb3.mono hbw.size)⟩
end Go.Proofs.YtdcknfdileomoaaDoor

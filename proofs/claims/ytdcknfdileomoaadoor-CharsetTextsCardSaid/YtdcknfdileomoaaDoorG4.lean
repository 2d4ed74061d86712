/-
  The walks through charset.WideField and WideTrim.
-/
import Derived.Test.YtdcknfdileomoaaDoorG1
import Derived.Test.YtdcknfdileomoaaDoorG2
import Derived.Test.YtdcknfdileomoaaDoorF1
namespace Go.Proofs.YtdcknfdileomoaaDoor
open Go.RowKit

theorem wide_rest (n m : Nat) (h : m ≤ n) : n - (m + 2 * ((n - m) / 2)) = (n - m) % 2 := by omega
theorem blanks2_len (n : Nat) : (Cs.blanks2 n).length = 2 * n := by
  induction n with
  | zero => rfl
  | succ n ih => simp [Cs.blanks2, ih]; omega

set_option maxHeartbeats 1600000 in
set_option maxRecDepth 100000 in
/-- charset.WideField. -/
theorem wideField_any (s : ByteArray) (z : Int) (w : World) (hT : Lib.Utf8Tabs 1 2 w) (hs : s.size ≤ 9223372036854775807) :
    Calls Tryd.prog 31 #[.string s, .int .i64 z] w fun e w' => e = .returned (.tuple #[.string ⟨(Cs.wideFieldR s.data.toList z).1.toArray⟩, .int .i64 (Cs.wideFieldR s.data.toList z).2]) ∧ Below w.heap.size w w' := by
  have cU := ucs2_any s w hT hs
  have hR : Cs.wideFieldR s.data.toList z = if ¬ (Cs.ucs2R s.data.toList).2 = 0 then ([], (Cs.ucs2R s.data.toList).2) else if z < 0 ∨ 65536 < z then ([], 2) else if z < (Cs.ucs2R s.data.toList).1.length then ([], 12)
      else ((Cs.ucs2R s.data.toList).1 ++ Cs.blanks2 ((z.toNat - (Cs.ucs2R s.data.toList).1.length) / 2) ++ List.replicate ((z.toNat - (Cs.ucs2R s.data.toList).1.length) % 2) 0, 0) := rfl
  generalize (Cs.ucs2R s.data.toList).1 = u at *
  generalize (Cs.ucs2R s.data.toList).2 = er at *
  have CU := Lib.hid cU
  clear cU hT
  by_cases h0 : er = 0
  case neg =>
    rw [if_pos h0] at hR
    have HR := Lib.hid hR
    have h0' : (er != 0) = true := by rw [bne_iff_ne]; exact h0
    clear hR h0
    go_enter Tryd.func31, Tryd.ntmps31
    go_wp2_with fail
    with_reducible refine CU.out.mono ?_
    rintro e w2 ⟨rfl, hb2⟩
    go_wp2_with fail
    go_ret2
    rw [HR.out]
    exact ⟨rfl, hb2⟩
  subst h0
  rw [if_neg (by simp)] at hR
  by_cases h2 : z < 0
  · rw [if_pos (.inl h2)] at hR
    have HR := Lib.hid hR
    clear hR
    go_enter Tryd.func31, Tryd.ntmps31
    go_wp2_with fail
    with_reducible refine CU.out.mono ?_
    rintro e w2 ⟨rfl, hb2⟩
    go_wp2_with fail
    go_ret2
    rw [HR.out]
    exact ⟨rfl, hb2⟩
  by_cases h3 : 65536 < z
  · rw [if_pos (.inr h3)] at hR
    have HR := Lib.hid hR
    clear hR
    go_enter Tryd.func31, Tryd.ntmps31
    go_wp2_with fail
    with_reducible refine CU.out.mono ?_
    rintro e w2 ⟨rfl, hb2⟩
    go_wp2_with fail
    go_ret2
    rw [HR.out]
    exact ⟨rfl, hb2⟩
  rw [if_neg (by omega)] at hR
  by_cases h4 : z < u.length
  · rw [if_pos h4] at hR
    have HR := Lib.hid hR
    clear hR
    go_enter Tryd.func31, Tryd.ntmps31
    go_wp2_with fail
    with_reducible refine CU.out.mono ?_
    rintro e w2 ⟨rfl, hb2⟩
    go_wp2_with fail
    go_ret2
    rw [HR.out]
    exact ⟨rfl, hb2⟩
  rw [if_neg h4] at hR
  obtain ⟨n, rfl⟩ : ∃ n : Nat, z = n := ⟨z.toNat, by omega⟩
  simp only [Int.toNat_natCast] at hR
  have hn : n ≤ 65536 := by omega
  have hu : u.length ≤ n := by omega
  have cZ := fun W => rep2_any (((n : Int) - (u.length : Int)) / 2) (by omega) (by omega) W
  rw [show (((n : Int) - (u.length : Int)) / 2).toNat = (n - u.length) / 2 by omega] at cZ
  have hbl := blanks2_len ((n - u.length) / 2)
  have hrl : (List.replicate ((n - u.length) % 2) (0 : UInt8)).length ≤ 1 := by simp; omega
  have hrr : (((n : Int) - ((u.length : Int) + ((Cs.blanks2 ((n - u.length) / 2)).length : Int)))).toNat = (n - u.length) % 2 := by omega
  have cY := fun W => rep_any 0 ((n : Int) - ((u.length : Int) + ((Cs.blanks2 ((n - u.length) / 2)).length : Int))) (by omega) (by omega) W
  rw [hrr] at cY
  have hb2l : u.length + (Cs.blanks2 ((n - u.length) / 2)).length ≤ n := by omega
  generalize Cs.blanks2 ((n - u.length) / 2) = bl at *
  generalize List.replicate ((n - u.length) % 2) (0 : UInt8) = rl at *
  have HR := Lib.hid hR
  have CZ := Lib.hid cZ
  have CY := Lib.hid cY
  clear hR cZ cY hrr hbl
  go_enter Tryd.func31, Tryd.ntmps31
  go_wp2_with fail
  with_reducible refine CU.out.mono ?_
  rintro e w2 ⟨rfl, hb2⟩
  go_wp2_with fail
  with_reducible refine (CZ.out _).mono ?_
  rintro e w3 ⟨rfl, hb3⟩
  go_wp2_with fail
  with_reducible refine (CY.out _).mono ?_
  rintro e w4 ⟨rfl, hb4⟩
  go_wp2_with fail
  go_ret2
  rw [HR.out, Kit.append_mk]
  exact ⟨rfl, (hb2.trans (hb3.mono hb2.size)).trans (hb4.mono (Nat.le_trans hb2.size hb3.size))⟩

theorem suffix_two {l : List UInt8} {n : Nat} (h : n + 2 ≤ l.length) : Lib.hasSuffix (l.take (n + 2)) [0, 32] = (decide (Cs.byt l n = 0) && decide (Cs.byt l (n + 1) = 32)) := by
  have h0 : n < l.length := by omega
  have h1 : n + 1 < l.length := by omega
  rw [show n + 2 = n + 1 + 1 from rfl, List.take_succ_eq_append_getElem h1, List.take_succ_eq_append_getElem h0]
  have e0 : (l[n]'h0).toNat = Cs.byt l n := by simp [Cs.byt, List.getD, h0]
  have e1 : (l[n + 1]'h1).toNat = Cs.byt l (n + 1) := by simp [Cs.byt, List.getD, h1]
  rw [← e0, ← e1]
  simp only [Lib.hasSuffix, List.isSuffixOf, List.reverse_append, List.reverse_cons, List.reverse_nil, List.nil_append, List.cons_append, List.isPrefixOf]
  have k : ∀ (a b : UInt8), (a == b) = decide (b.toNat = a.toNat) := by
    intro a b
    rw [Bool.eq_iff_iff]
    simp
    constructor
    · intro e; rw [e]
    · intro e; exact UInt8.toNat_inj.1 e.symm
  rw [k, k]
  simp [Bool.and_comm]
theorem suffix_short {l : List UInt8} (h : l.length < 2) : Lib.hasSuffix l [0, 32] = false := by
  rw [Bool.eq_false_iff]
  intro e
  unfold Lib.hasSuffix at e
  have := (List.isSuffixOf_iff_suffix.1 e).length_le
  simp at this
  omega
theorem wt_yes {l : List UInt8} {n : Nat} (h : n % 2 = 0) (h0 : Cs.byt l n = 0) (h1 : Cs.byt l (n + 1) = 32) : Cs.wtLen l (n + 2) = Cs.wtLen l n := by
  rw [Cs.wtLen, if_pos ⟨h, h0, h1⟩]
theorem wt_no {l : List UInt8} {n : Nat} (h : ¬ (n % 2 = 0 ∧ Cs.byt l n = 0 ∧ Cs.byt l (n + 1) = 32)) : Cs.wtLen l (n + 2) = n + 2 := by
  rw [Cs.wtLen, if_neg h]

/-- Where the trimming begins. -/
def wtStart (l : List UInt8) : Nat := if l.length % 2 = 1 ∧ Cs.byt l (l.length - 1) = 0 then l.length - 1 else l.length
theorem wideTrim_eq {l : List UInt8} (h : ¬ 65536 < l.length) : Cs.wideTrimR l = Cs.fromR (l.take (Cs.wtLen l (wtStart l))) := if_neg h

set_option maxHeartbeats 1600000 in
set_option maxRecDepth 100000 in
/-- charset.WideTrim. -/
theorem wideTrim_any (s : ByteArray) (w : World) (hs : s.size ≤ 9223372036854775807) :
    Calls Tryd.prog 33 #[.string s] w fun e w' => e = .returned (.tuple #[.string ⟨(Cs.wideTrimR s.data.toList).1.toArray⟩, .int .i64 (Cs.wideTrimR s.data.toList).2]) ∧ Below w.heap.size w w' := by
  have hdl := Kit.len_size s
  by_cases h1 : 65536 < s.size
  · have HR := Lib.hid (show Cs.wideTrimR s.data.toList = ([], 7) from if_pos (by omega))
    have h1' : (65536 : Int) < (s.size : Int) := by omega
    clear hdl h1
    go_enter Tryd.func33, Tryd.ntmps33
    go_wp2_with fail
    go_ret2
    rw [HR.out]
    exact ⟨rfl, Below.refl _ _⟩
  have h1' : ¬ (65536 : Int) < (s.size : Int) := by omega
  have HR := Lib.hid (wideTrim_eq (l := s.data.toList) (by omega))
  have HDL := Lib.hid hdl
  have hcase : (s.size % 2 = 1 ∧ Cs.byt s.data.toList (s.size - 1) = 0) ∨ (s.size % 2 = 1 ∧ Cs.byt s.data.toList (s.size - 1) ≠ 0) ∨ s.size % 2 = 0 := by omega
  have hfull : s = s.extract 0 s.size := by simp
  clear h1
  rcases hcase with ⟨ho, hb⟩ | ⟨ho, hb⟩ | he
  · have hst : wtStart s.data.toList = s.size - 1 := by
      unfold wtStart
      rw [hdl, if_pos ⟨ho, hb⟩]
    have HST := Lib.hid hst
    have hpos : s.size - 1 < s.size := by omega
    have b0 := Kit.byt_get s (s.size - 1) hpos
    rw [hb] at b0
    have e1 : ((s.size : Int) % 2 != 0) = true := by rw [bne_iff_ne]; omega
    have hidx : ((s.size : Int) - 1).toNat = s.size - 1 := by omega
    have hz : (1 : Int) ≤ (s.size : Int) := by omega
    clear hdl hst hb hfull
    go_enter Tryd.func33, Tryd.ntmps33
    go_wp2_with fail
    go_slots
    go_loopw [0] (fun sv wr => ∃ k : Nat, sv = .string (s.extract 0 k) ∧ k ≤ s.size ∧ Hid (Cs.wtLen s.data.toList (wtStart s.data.toList) = Cs.wtLen s.data.toList k) ∧ w = wr) (fun sv _ => Kit.strLen sv)
    case atStart => exact ⟨s.size - 1, by first | rfl | (congr 1), by omega, Lib.hid (by rw [HST.out]), rfl⟩
    case round =>
      clear e1
      obtain ⟨k, rfl, hk, HE, rfl⟩ := hrel
      have hxs : (s.extract 0 k).size = k := by simp; omega
      have hxt := Kit.extract_take s k
      have cF := fun W => from_any (s.extract 0 k) W (by omega)
      have hxl : (s.extract 0 k).data.toList = s.data.toList.take k := by rw [hxt]
      rw [hxl] at cF
      have cS := fun W => Tryd.strings_HasSuffix (s.extract 0 k) ⟨#[0, 32]⟩ W (by omega)
      rw [hxl] at cS
      by_cases hok : k % 2 = 0 ∧ 2 ≤ k ∧ Cs.byt s.data.toList (k - 2) = 0 ∧ Cs.byt s.data.toList (k - 1) = 32
      · obtain ⟨hk2, hk3, hk4, hk5⟩ := hok
        obtain ⟨n, rfl⟩ : ∃ n, k = n + 2 := ⟨k - 2, by omega⟩
        have HW := Lib.hid (HE.out.trans (wt_yes (l := s.data.toList) (n := n) (by omega) hk4 hk5))
        have hsf : Lib.hasSuffix (s.data.toList.take (n + 2)) [0, 32] = true := by
          rw [suffix_two (by rw [HDL.out]; exact hk), show Cs.byt s.data.toList n = 0 from hk4, show Cs.byt s.data.toList (n + 1) = 32 from hk5]; rfl
        have cS' : ∀ W, Calls Tryd.prog 55 #[.string (s.extract 0 (n + 2)), .string ⟨#[0, 32]⟩] W fun e w' => e = .returned (.bool true) ∧ w' = W := fun W => by
          have h := cS W
          rw [show (⟨#[0, 32]⟩ : ByteArray).data.toList = [0, 32] from rfl, hsf] at h
          exact h
        have hex2 : (s.extract 0 (n + 2)).extract 0 n = s.extract 0 n := by
          rw [Kit.extract_take, Kit.extract_take, Kit.extract_take]
          simp [List.take_take]
        have HX2 := Lib.hid hex2
        have CS := Lib.hid cS'
        clear cS cS' cF hxl hxt hsf hex2 hk4 hk5
        generalize s.extract 0 (n + 2) = x at *
        have e3 : ((x.size : Int) % 2 == 0) = true := by rw [beq_iff_eq]; omega
        have e4 : (2 : Int) ≤ (x.size : Int) := by omega
        have hxi : ((x.size : Int) - 2).toNat = n := by omega
        go_wp2_with fail
        with_reducible refine (CS.out _).mono ?_
        rintro e w2 ⟨rfl, rfl⟩
        go_wp2_with fail
        go_roundw
        case rel => exact ⟨n, by rw [← HX2.out], by omega, HW, by first | rfl | trivial⟩
        case measure => simp [Kit.strLen]; omega
      · have hstop : Cs.wtLen s.data.toList k = k := by
          match k, hok with
          | 0, _ => rfl
          | 1, _ => rfl
          | n + 2, hok => exact wt_no fun h => hok ⟨by omega, by omega, h.2.1, h.2.2⟩
        have hR := HR.out
        rw [HE.out, hstop] at hR
        have HR2 := Lib.hid hR
        have CF := Lib.hid cF
        by_cases hev : k % 2 = 0
        · have hsf : Lib.hasSuffix (s.data.toList.take k) [0, 32] = false := by
            by_cases h2 : 2 ≤ k
            · obtain ⟨n, rfl⟩ : ∃ n, k = n + 2 := ⟨k - 2, by omega⟩
              rw [suffix_two (by rw [HDL.out]; exact hk), Bool.eq_false_iff]
              intro e
              simp only [Bool.and_eq_true, decide_eq_true_eq] at e
              exact hok ⟨hev, by omega, e.1, e.2⟩
            · exact suffix_short (by rw [List.length_take]; omega)
          have cS' : ∀ W, Calls Tryd.prog 55 #[.string (s.extract 0 k), .string ⟨#[0, 32]⟩] W fun e w' => e = .returned (.bool false) ∧ w' = W := fun W => by
            have h := cS W
            rw [show (⟨#[0, 32]⟩ : ByteArray).data.toList = [0, 32] from rfl, hsf] at h
            exact h
          have CS := Lib.hid cS'
          clear cS cS' cF hxl hxt hsf hR hstop hok
          generalize s.extract 0 k = x at *
          have e3 : ((x.size : Int) % 2 == 0) = true := by rw [beq_iff_eq]; omega
          go_wp2_with fail
          with_reducible refine (CS.out _).mono ?_
          rintro e w2 ⟨rfl, rfl⟩
          go_wp2_with fail
          with_reducible refine (CF.out _).mono ?_
          rintro e w3 ⟨rfl, hb3⟩
          go_wp2_with fail
          go_ret2
          rw [HR2.out]
          exact ⟨rfl, hb3⟩
        · clear cS cF hxl hxt hR hstop hok
          generalize s.extract 0 k = x at *
          have e3 : ((x.size : Int) % 2 == 0) = false := by rw [beq_eq_false_iff_ne]; omega
          go_wp2_with fail
          with_reducible refine (CF.out _).mono ?_
          rintro e w3 ⟨rfl, hb3⟩
          go_wp2_with fail
          go_ret2
          rw [HR2.out]
          exact ⟨rfl, hb3⟩
  · have hst : wtStart s.data.toList = s.size := by
      unfold wtStart
      rw [hdl, if_neg (fun h => hb h.2)]
    have HST := Lib.hid hst
    have hpos : s.size - 1 < s.size := by omega
    have b0 := Kit.byt_get s (s.size - 1) hpos
    have e1 : ((s.size : Int) % 2 != 0) = true := by rw [bne_iff_ne]; omega
    have hidx : ((s.size : Int) - 1).toNat = s.size - 1 := by omega
    have hz : (1 : Int) ≤ (s.size : Int) := by omega
    generalize Cs.byt s.data.toList (s.size - 1) = c at *
    have e2 : ((c : Int) == 0) = false := by rw [beq_eq_false_iff_ne]; omega
    have HF := Lib.hid hfull
    clear hdl hst hb hfull
    go_enter Tryd.func33, Tryd.ntmps33
    go_wp2_with fail
    go_slots
    go_loopw [0] (fun sv wr => ∃ k : Nat, sv = .string (s.extract 0 k) ∧ k ≤ s.size ∧ Hid (Cs.wtLen s.data.toList (wtStart s.data.toList) = Cs.wtLen s.data.toList k) ∧ w = wr) (fun sv _ => Kit.strLen sv)
    case atStart => exact ⟨s.size, by rw [← HF.out], by omega, Lib.hid (by rw [HST.out]), rfl⟩
    case round =>
      clear e1
      obtain ⟨k, rfl, hk, HE, rfl⟩ := hrel
      have hxs : (s.extract 0 k).size = k := by simp; omega
      have hxt := Kit.extract_take s k
      have cF := fun W => from_any (s.extract 0 k) W (by omega)
      have hxl : (s.extract 0 k).data.toList = s.data.toList.take k := by rw [hxt]
      rw [hxl] at cF
      have cS := fun W => Tryd.strings_HasSuffix (s.extract 0 k) ⟨#[0, 32]⟩ W (by omega)
      rw [hxl] at cS
      by_cases hok : k % 2 = 0 ∧ 2 ≤ k ∧ Cs.byt s.data.toList (k - 2) = 0 ∧ Cs.byt s.data.toList (k - 1) = 32
      · obtain ⟨hk2, hk3, hk4, hk5⟩ := hok
        obtain ⟨n, rfl⟩ : ∃ n, k = n + 2 := ⟨k - 2, by omega⟩
        have HW := Lib.hid (HE.out.trans (wt_yes (l := s.data.toList) (n := n) (by omega) hk4 hk5))
        have hsf : Lib.hasSuffix (s.data.toList.take (n + 2)) [0, 32] = true := by
          rw [suffix_two (by rw [HDL.out]; exact hk), show Cs.byt s.data.toList n = 0 from hk4, show Cs.byt s.data.toList (n + 1) = 32 from hk5]; rfl
        have cS' : ∀ W, Calls Tryd.prog 55 #[.string (s.extract 0 (n + 2)), .string ⟨#[0, 32]⟩] W fun e w' => e = .returned (.bool true) ∧ w' = W := fun W => by
          have h := cS W
          rw [show (⟨#[0, 32]⟩ : ByteArray).data.toList = [0, 32] from rfl, hsf] at h
          exact h
        have hex2 : (s.extract 0 (n + 2)).extract 0 n = s.extract 0 n := by
          rw [Kit.extract_take, Kit.extract_take, Kit.extract_take]
          simp [List.take_take]
        have HX2 := Lib.hid hex2
        have CS := Lib.hid cS'
        clear cS cS' cF hxl hxt hsf hex2 hk4 hk5
        generalize s.extract 0 (n + 2) = x at *
        have e3 : ((x.size : Int) % 2 == 0) = true := by rw [beq_iff_eq]; omega
        have e4 : (2 : Int) ≤ (x.size : Int) := by omega
        have hxi : ((x.size : Int) - 2).toNat = n := by omega
        go_wp2_with fail
        with_reducible refine (CS.out _).mono ?_
        rintro e w2 ⟨rfl, rfl⟩
        go_wp2_with fail
        go_roundw
        case rel => exact ⟨n, by rw [← HX2.out], by omega, HW, by first | rfl | trivial⟩
        case measure => simp [Kit.strLen]; omega
      · have hstop : Cs.wtLen s.data.toList k = k := by
          match k, hok with
          | 0, _ => rfl
          | 1, _ => rfl
          | n + 2, hok => exact wt_no fun h => hok ⟨by omega, by omega, h.2.1, h.2.2⟩
        have hR := HR.out
        rw [HE.out, hstop] at hR
        have HR2 := Lib.hid hR
        have CF := Lib.hid cF
        by_cases hev : k % 2 = 0
        · have hsf : Lib.hasSuffix (s.data.toList.take k) [0, 32] = false := by
            by_cases h2 : 2 ≤ k
            · obtain ⟨n, rfl⟩ : ∃ n, k = n + 2 := ⟨k - 2, by omega⟩
              rw [suffix_two (by rw [HDL.out]; exact hk), Bool.eq_false_iff]
              intro e
              simp only [Bool.and_eq_true, decide_eq_true_eq] at e
              exact hok ⟨hev, by omega, e.1, e.2⟩
            · exact suffix_short (by rw [List.length_take]; omega)
          have cS' : ∀ W, Calls Tryd.prog 55 #[.string (s.extract 0 k), .string ⟨#[0, 32]⟩] W fun e w' => e = .returned (.bool false) ∧ w' = W := fun W => by
            have h := cS W
            rw [show (⟨#[0, 32]⟩ : ByteArray).data.toList = [0, 32] from rfl, hsf] at h
            exact h
          have CS := Lib.hid cS'
          clear cS cS' cF hxl hxt hsf hR hstop hok
          generalize s.extract 0 k = x at *
          have e3 : ((x.size : Int) % 2 == 0) = true := by rw [beq_iff_eq]; omega
          go_wp2_with fail
          with_reducible refine (CS.out _).mono ?_
          rintro e w2 ⟨rfl, rfl⟩
          go_wp2_with fail
          with_reducible refine (CF.out _).mono ?_
          rintro e w3 ⟨rfl, hb3⟩
          go_wp2_with fail
          go_ret2
          rw [HR2.out]
          exact ⟨rfl, hb3⟩
        · clear cS cF hxl hxt hR hstop hok
          generalize s.extract 0 k = x at *
          have e3 : ((x.size : Int) % 2 == 0) = false := by rw [beq_eq_false_iff_ne]; omega
          go_wp2_with fail
          with_reducible refine (CF.out _).mono ?_
          rintro e w3 ⟨rfl, hb3⟩
          go_wp2_with fail
          go_ret2
          rw [HR2.out]
          exact ⟨rfl, hb3⟩
  · have hst : wtStart s.data.toList = s.size := by
      unfold wtStart
      rw [hdl, if_neg (fun h => by omega)]
    have HST := Lib.hid hst
    have e1 : ((s.size : Int) % 2 != 0) = false := by rw [bne_eq_false_iff_eq]; omega
    have HF := Lib.hid hfull
    clear hdl hst hfull
    go_enter Tryd.func33, Tryd.ntmps33
    go_wp2_with fail
    go_slots
    go_loopw [0] (fun sv wr => ∃ k : Nat, sv = .string (s.extract 0 k) ∧ k ≤ s.size ∧ Hid (Cs.wtLen s.data.toList (wtStart s.data.toList) = Cs.wtLen s.data.toList k) ∧ w = wr) (fun sv _ => Kit.strLen sv)
    case atStart => exact ⟨s.size, by rw [← HF.out], by omega, Lib.hid (by rw [HST.out]), rfl⟩
    case round =>
      clear e1
      obtain ⟨k, rfl, hk, HE, rfl⟩ := hrel
      have hxs : (s.extract 0 k).size = k := by simp; omega
      have hxt := Kit.extract_take s k
      have cF := fun W => from_any (s.extract 0 k) W (by omega)
      have hxl : (s.extract 0 k).data.toList = s.data.toList.take k := by rw [hxt]
      rw [hxl] at cF
      have cS := fun W => Tryd.strings_HasSuffix (s.extract 0 k) ⟨#[0, 32]⟩ W (by omega)
      rw [hxl] at cS
      by_cases hok : k % 2 = 0 ∧ 2 ≤ k ∧ Cs.byt s.data.toList (k - 2) = 0 ∧ Cs.byt s.data.toList (k - 1) = 32
      · obtain ⟨hk2, hk3, hk4, hk5⟩ := hok
        obtain ⟨n, rfl⟩ : ∃ n, k = n + 2 := ⟨k - 2, by omega⟩
        have HW := Lib.hid (HE.out.trans (wt_yes (l := s.data.toList) (n := n) (by omega) hk4 hk5))
        have hsf : Lib.hasSuffix (s.data.toList.take (n + 2)) [0, 32] = true := by
          rw [suffix_two (by rw [HDL.out]; exact hk), show Cs.byt s.data.toList n = 0 from hk4, show Cs.byt s.data.toList (n + 1) = 32 from hk5]; rfl
        have cS' : ∀ W, Calls Tryd.prog 55 #[.string (s.extract 0 (n + 2)), .string ⟨#[0, 32]⟩] W fun e w' => e = .returned (.bool true) ∧ w' = W := fun W => by
          have h := cS W
          rw [show (⟨#[0, 32]⟩ : ByteArray).data.toList = [0, 32] from rfl, hsf] at h
          exact h
        have hex2 : (s.extract 0 (n + 2)).extract 0 n = s.extract 0 n := by
          rw [Kit.extract_take, Kit.extract_take, Kit.extract_take]
          simp [List.take_take]
        have HX2 := Lib.hid hex2
        have CS := Lib.hid cS'
        clear cS cS' cF hxl hxt hsf hex2 hk4 hk5
        generalize s.extract 0 (n + 2) = x at *
        have e3 : ((x.size : Int) % 2 == 0) = true := by rw [beq_iff_eq]; omega
        have e4 : (2 : Int) ≤ (x.size : Int) := by omega
        have hxi : ((x.size : Int) - 2).toNat = n := by omega
        go_wp2_with fail
        with_reducible refine (CS.out _).mono ?_
        rintro e w2 ⟨rfl, rfl⟩
        go_wp2_with fail
        go_roundw
        case rel => exact ⟨n, by rw [← HX2.out], by omega, HW, by first | rfl | trivial⟩
        case measure => simp [Kit.strLen]; omega
      · have hstop : Cs.wtLen s.data.toList k = k := by
          match k, hok with
          | 0, _ => rfl
          | 1, _ => rfl
          | n + 2, hok => exact wt_no fun h => hok ⟨by omega, by omega, h.2.1, h.2.2⟩
        have hR := HR.out
        rw [HE.out, hstop] at hR
        have HR2 := Lib.hid hR
        have CF := Lib.hid cF
        by_cases hev : k % 2 = 0
        · have hsf : Lib.hasSuffix (s.data.toList.take k) [0, 32] = false := by
            by_cases h2 : 2 ≤ k
            · obtain ⟨n, rfl⟩ : ∃ n, k = n + 2 := ⟨k - 2, by omega⟩
              rw [suffix_two (by rw [HDL.out]; exact hk), Bool.eq_false_iff]
              intro e
              simp only [Bool.and_eq_true, decide_eq_true_eq] at e
              exact hok ⟨hev, by omega, e.1, e.2⟩
            · exact suffix_short (by rw [List.length_take]; omega)
          have cS' : ∀ W, Calls Tryd.prog 55 #[.string (s.extract 0 k), .string ⟨#[0, 32]⟩] W fun e w' => e = .returned (.bool false) ∧ w' = W := fun W => by
            have h := cS W
            rw [show (⟨#[0, 32]⟩ : ByteArray).data.toList = [0, 32] from rfl, hsf] at h
            exact h
          have CS := Lib.hid cS'
          clear cS cS' cF hxl hxt hsf hR hstop hok
          generalize s.extract 0 k = x at *
          have e3 : ((x.size : Int) % 2 == 0) = true := by rw [beq_iff_eq]; omega
          go_wp2_with fail
          with_reducible refine (CS.out _).mono ?_
          rintro e w2 ⟨rfl, rfl⟩
          go_wp2_with fail
          with_reducible refine (CF.out _).mono ?_
          rintro e w3 ⟨rfl, hb3⟩
          go_wp2_with fail
          go_ret2
          rw [HR2.out]
          exact ⟨rfl, hb3⟩
        · clear cS cF hxl hxt hR hstop hok
          generalize s.extract 0 k = x at *
          have e3 : ((x.size : Int) % 2 == 0) = false := by rw [beq_eq_false_iff_ne]; omega
          go_wp2_with fail
          with_reducible refine (CF.out _).mono ?_
          rintro e w3 ⟨rfl, hb3⟩
          go_wp2_with fail
          go_ret2
          rw [HR2.out]
          exact ⟨rfl, hb3⟩
end Go.Proofs.YtdcknfdileomoaaDoor

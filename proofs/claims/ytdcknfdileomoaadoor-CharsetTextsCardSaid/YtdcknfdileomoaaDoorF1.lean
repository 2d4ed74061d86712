/-
  The walks through Field and Trim of charset and of the reference of layer 17.
-/
import Derived.Test.YtdcknfdileomoaaDoorKit2
import Derived.Test.YtdcknfdileomoaaDoorCh
import Derived.Test.YtdcknfdileomoaaDoorShelf
import Derived.Test.YtdcknfdileomoaaDoorW17
namespace Go.Proofs.YtdcknfdileomoaaDoor
open Go.RowKit

theorem append_str (s : ByteArray) (r : List UInt8) : s ++ ⟨r.toArray⟩ = ⟨(s.data.toList ++ r).toArray⟩ := by
  apply ByteArray.ext
  simp [ByteArray.data_append]

theorem repeatL_one (c : UInt8) (n : Nat) : Lib.repeatL [c] n = List.replicate n c := by
  induction n with
  | zero => rfl
  | succ n ih => rw [Lib.repeatL, ih, List.replicate_succ]; rfl

/-- strings.Repeat of a byte. -/
theorem rep_any (c : UInt8) (z : Int) (h0 : 0 ≤ z) (h1 : z ≤ 65536) (w : World) : Calls Tryd.prog 53 #[.string ⟨#[c]⟩, .int .i64 z] w fun e w' => e = .returned (.string ⟨(List.replicate z.toNat c).toArray⟩) ∧ Below w.heap.size w w' := by
  obtain ⟨n, rfl⟩ := Int.eq_ofNat_of_zero_le h0
  have := Tryd.strings_Repeat ⟨#[c]⟩ n w (by omega) (by simp [ByteArray.size]; omega)
  rw [show (⟨#[c]⟩ : ByteArray).data.toList = [c] from rfl, repeatL_one] at this
  simpa using this

theorem blanks2_rep (n : Nat) : Lib.repeatL [0, 32] n = Cs.blanks2 n := by
  induction n with
  | zero => rfl
  | succ n ih => rw [Lib.repeatL, ih, Cs.blanks2]; rfl

/-- strings.Repeat of a blank in UCS-2. -/
theorem rep2_any (z : Int) (h0 : 0 ≤ z) (h1 : z ≤ 65536) (w : World) : Calls Tryd.prog 53 #[.string ⟨#[0, 32]⟩, .int .i64 z] w fun e w' => e = .returned (.string ⟨(Cs.blanks2 z.toNat).toArray⟩) ∧ Below w.heap.size w w' := by
  obtain ⟨n, rfl⟩ := Int.eq_ofNat_of_zero_le h0
  have := Tryd.strings_Repeat ⟨#[0, 32]⟩ n w (by omega) (by simp [ByteArray.size]; omega)
  rw [show (⟨#[0, 32]⟩ : ByteArray).data.toList = [0, 32] from rfl, blanks2_rep] at this
  simpa using this

set_option maxHeartbeats 1600000 in
set_option maxRecDepth 100000 in
/-- charset.Field. -/
theorem field_any (s : ByteArray) (z : Int) (w : World) (hs : s.size ≤ 9223372036854775807) :
    Calls Tryd.prog 23 #[.string s, .int .i64 z] w fun e w' => e = .returned (.tuple #[.string ⟨(Cs.fieldR s.data.toList z).1.toArray⟩, .int .i64 (Cs.fieldR s.data.toList z).2]) ∧ Below w.heap.size w w' := by
  have hdl := Kit.len_size s
  have hR : Cs.fieldR s.data.toList z = if 65536 < s.size then ([], 7) else if z < 0 ∨ 65536 < z then ([], 2) else if z < s.size then ([], 12) else (s.data.toList ++ List.replicate (z.toNat - s.size) 32, 0) := by
    unfold Cs.fieldR
    rw [hdl]
  by_cases h1 : 65536 < s.size
  · rw [if_pos h1] at hR
    have HR := Lib.hid hR
    have h1' : (65536 : Int) < (s.size : Int) := by omega
    clear hR hdl h1
    go_enter Tryd.func23, Tryd.ntmps23
    go_wp2_with fail
    go_ret2
    rw [HR.out]
    exact ⟨rfl, Below.refl _ _⟩
  rw [if_neg h1] at hR
  have h1' : ¬ (65536 : Int) < (s.size : Int) := by omega
  by_cases h2 : z < 0
  · rw [if_pos (.inl h2)] at hR
    have HR := Lib.hid hR
    clear hR hdl h1
    go_enter Tryd.func23, Tryd.ntmps23
    go_wp2_with fail
    go_ret2
    rw [HR.out]
    exact ⟨rfl, Below.refl _ _⟩
  by_cases h3 : 65536 < z
  · rw [if_pos (.inr h3)] at hR
    have HR := Lib.hid hR
    clear hR hdl h1
    go_enter Tryd.func23, Tryd.ntmps23
    go_wp2_with fail
    go_ret2
    rw [HR.out]
    exact ⟨rfl, Below.refl _ _⟩
  rw [if_neg (by omega)] at hR
  by_cases h4 : z < s.size
  · rw [if_pos h4] at hR
    have HR := Lib.hid hR
    clear hR hdl h1
    go_enter Tryd.func23, Tryd.ntmps23
    go_wp2_with fail
    go_ret2
    rw [HR.out]
    exact ⟨rfl, Below.refl _ _⟩
  rw [if_neg h4] at hR
  have cZ := fun W => rep_any 32 (z - (s.size : Int)) (by omega) (by omega) W
  rw [show (z - (s.size : Int)).toNat = z.toNat - s.size by omega] at cZ
  have hrl : (List.replicate (z.toNat - s.size) (32 : UInt8)).length ≤ 65536 := by simp; omega
  generalize List.replicate (z.toNat - s.size) (32 : UInt8) = r at *
  have HR := Lib.hid hR
  have CZ := Lib.hid cZ
  clear hR hdl h1 cZ
  go_enter Tryd.func23, Tryd.ntmps23
  go_wp2_with fail
  with_reducible refine (CZ.out _).mono ?_
  rintro e w3 ⟨rfl, hb3⟩
  go_wp2_with fail
  go_ret2
  rw [HR.out, append_str]
  exact ⟨rfl, hb3⟩

set_option maxHeartbeats 1600000 in
set_option maxRecDepth 100000 in
/-- charset.Trim. -/
theorem trim_any (s : ByteArray) (w : World) (hs : s.size ≤ 9223372036854775807) :
    Calls Tryd.prog 25 #[.string s] w fun e w' => e = .returned (.string ⟨(Cs.trimR s.data.toList).toArray⟩) ∧ w = w' := by
  have hdl := Kit.len_size s
  by_cases h1 : 65536 < s.size
  · have HR := Lib.hid (show Cs.trimR s.data.toList = [] from if_pos (by omega))
    have h1' : (65536 : Int) < (s.size : Int) := by omega
    clear hdl h1
    go_enter Tryd.func25, Tryd.ntmps25
    go_wp2_with fail
    go_ret
    rw [HR.out]
    exact ⟨rfl, rfl⟩
  · have HR := Lib.hid (show Cs.trimR s.data.toList = Lib.trimRightB s.data.toList 32 from if_neg (by omega))
    have h1' : ¬ (65536 : Int) < (s.size : Int) := by omega
    have CT := Lib.hid (Tryd.strings_TrimRight_one s 32 (by decide) w hs)
    clear hdl h1
    go_enter Tryd.func25, Tryd.ntmps25
    go_wp2_with fail
    with_reducible refine CT.out.mono ?_
    rintro e w3 ⟨rfl, rfl⟩
    go_wp2_with fail
    go_ret
    rw [HR.out]
    exact ⟨rfl, rfl⟩

theorem trim_step {l : List UInt8} (k : Nat) (hk : k < l.length) (h : Cs.byt l k = 32) (he : Lib.trimRightB l 32 = Lib.trimRightB (l.take (k + 1)) 32) : Lib.trimRightB l 32 = Lib.trimRightB (l.take k) 32 := by
  rw [he]
  have e0 : l[k]'hk = 32 := by
    apply UInt8.toNat_inj.1
    unfold Cs.byt at h
    simpa [List.getD, hk] using h
  unfold Lib.trimRightB
  rw [List.take_succ_eq_append_getElem hk, List.reverse_append]
  simp [e0]

theorem trim_stop {l : List UInt8} (k : Nat) (hk : k ≤ l.length) (h : ∀ j, k = j + 1 → Cs.byt l j ≠ 32) : Lib.trimRightB (l.take k) 32 = l.take k := by
  have := Lib.trimRightB_take (l.take k) 32 k (by rw [List.length_take]; omega) (fun j b hj hb => by
    have : (l.take k).length ≤ j := by rw [List.length_take]; omega
    rw [List.getElem?_eq_none this] at hb; cases hb) (fun b h0 hb => by
    intro e
    refine h (k - 1) (by omega) ?_
    rw [List.getElem?_take_of_lt (by omega)] at hb
    unfold Cs.byt
    simp [List.getD, hb, e])
  rw [this, List.take_take]
  simp

set_option maxHeartbeats 1600000 in
set_option maxRecDepth 100000 in
/-- masterdiscref17.Trim. -/
theorem rTrim_any (s : ByteArray) (w : World) (hs : s.size ≤ 9223372036854775807) :
    Calls Tryd.prog 26 #[.string s] w fun e w' => e = .returned (.string ⟨(Cs.trimR s.data.toList).toArray⟩) ∧ Below w.heap.size w w' := by
  have hdl := Kit.len_size s
  by_cases h1 : 65536 < s.size
  · have HR := Lib.hid (show Cs.trimR s.data.toList = [] from if_pos (by omega))
    have h1' : (65536 : Int) < (s.size : Int) := by omega
    clear hdl h1
    go_enter Tryd.func26, Tryd.ntmps26
    go_wp2_with fail
    go_ret
    rw [HR.out]
    exact ⟨rfl, Below.refl _ _⟩
  · have HR := Lib.hid (show Cs.trimR s.data.toList = Lib.trimRightB s.data.toList 32 from if_neg (by omega))
    have h1' : ¬ (65536 : Int) < (s.size : Int) := by omega
    clear hdl h1
    go_enter Tryd.func26, Tryd.ntmps26
    go_wp2_with fail
    go_loopw [0] (fun sv wr => ∃ k : Nat, sv = .string (s.extract 0 k) ∧ k ≤ s.size ∧ Hid (Lib.trimRightB s.data.toList 32 = Lib.trimRightB (s.data.toList.take k) 32) ∧ Below w.heap.size w wr) (fun sv _ => Kit.strLen sv)
    case atStart => exact ⟨s.size, by simp, by omega, Lib.hid (by rw [← Kit.len_size, List.take_length]), Below.refl _ _⟩
    case round =>
      obtain ⟨k, rfl, hk, HE, hbw⟩ := hrel
      have hxs : (s.extract 0 k).size = k := by simp; omega
      have hxt := Kit.extract_take s k
      by_cases h0 : k = 0
      · have HS := Lib.hid (trim_stop (l := s.data.toList) k (by rw [Kit.len_size]; omega) (fun j hj => by omega))
        have HX := Lib.hid hxt
        generalize s.extract 0 k = x at *
        have hx0 : ¬ (0 : Int) < (x.size : Int) := by omega
        clear hxt
        go_wp2_with fail
        go_ret
        rw [HR.out, HE.out, HS.out, HX.out]
        exact ⟨rfl, hbw⟩
      · obtain ⟨n, rfl⟩ : ∃ n, k = n + 1 := ⟨k - 1, by omega⟩
        have b0 : ∀ h : n < (s.extract 0 (n + 1)).size, ((s.extract 0 (n + 1))[n]'h).toNat = Cs.byt s.data.toList n := fun h => by
          rw [Kit.byt_get, Kit.extract_take]
          unfold Cs.byt
          simp [List.getD]
        have hex2 : (s.extract 0 (n + 1)).extract 0 n = s.extract 0 n := by
          rw [Kit.extract_take, Kit.extract_take, Kit.extract_take]
          simp [List.take_take]
        have HX2 := Lib.hid hex2
        have HX := Lib.hid hxt
        have l0 := Cs.byt_lt s.data.toList n
        have hst := trim_step (l := s.data.toList) n (by rw [Kit.len_size]; omega)
        have hsp := fun (h : Cs.byt s.data.toList n ≠ 32) => trim_stop (l := s.data.toList) (n + 1) (by rw [Kit.len_size]; omega) (fun j hj => by
            obtain rfl : j = n := by omega
            exact h)
        generalize Cs.byt s.data.toList n = c at *
        generalize s.extract 0 (n + 1) = x at *
        have hx0 : (0 : Int) < (x.size : Int) := by omega
        have hxn : n < x.size := by omega
        have b0' := b0 hxn
        have hxi : ((x.size : Int) - 1).toNat = n := by omega
        clear hex2 hxt b0
        by_cases hc : c = 32
        · have HST := Lib.hid (hst hc)
          have hc' : ((c : Int) == 32) = true := by rw [beq_iff_eq]; omega
          clear hst hsp hc
          go_wp2_with fail
          go_roundw
          case rel => exact ⟨n, by rw [← HX2.out], by omega, Lib.hid (HST.out HE.out), hbw⟩
          case measure => simp [Kit.strLen]; omega
        · have HSP := Lib.hid (hsp hc)
          have hc' : ((c : Int) == 32) = false := by rw [beq_eq_false_iff_ne]; omega
          clear hst hsp hc
          go_wp2_with fail
          go_ret
          rw [HR.out, HE.out, HSP.out, HX.out]
          exact ⟨rfl, hbw⟩
end Go.Proofs.YtdcknfdileomoaaDoor

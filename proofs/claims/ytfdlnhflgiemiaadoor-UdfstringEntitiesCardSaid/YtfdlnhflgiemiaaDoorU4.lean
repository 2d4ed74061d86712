/-
  The walk through udfstring.Fit.
-/
import Derived.Test.YtfdlnhflgiemiaaDoorU3
namespace Go.Proofs.YtfdlnhflgiemiaaDoor
open Go.RowKit

theorem row_take {w : World} {A : Option Addr} {c : Nat} {cs : List Nat} {k : Nat} (h : Kit.Row w (.slice A cs.length c) (Kit.ints cs)) (hk : k ≤ cs.length) : Kit.Row w (.slice A k c) (Kit.izs ((cs.take k).map fun (n : Nat) => (n : Int))) := by
  obtain ⟨A', c', he, h1, h2, h3⟩ := h
  injection he with e1 e2 e3
  subst e1; subst e3
  rw [Kit.ints_length] at h1 h3
  refine ⟨A, c, ?_, ?_, h2, fun h0 => ?_⟩
  · rw [Kit.izs_length, List.length_map, List.length_take, Nat.min_eq_left hk]
  · rw [Kit.izs_length, List.length_map, List.length_take]; omega
  · rw [Kit.izs_length, List.length_map, List.length_take, Nat.min_eq_left hk] at h0
    obtain ⟨b, o, e, hl, hc⟩ := h3 (by omega)
    refine ⟨b, o, e, hl, fun j u hu => hc j u ?_⟩
    simp only [Kit.izs, Kit.ints, List.getElem?_map, List.getElem?_take] at hu ⊢
    split at hu
    · simpa using hu
    · simp at hu

set_option maxHeartbeats 1600000 in
set_option maxRecDepth 100000 in
/-- udfstring.Fit. -/
theorem fit_any (s : ByteArray) (size : Int) (w : World) (hT : Lib.Utf8Tabs 0 1 w) (hs : s.size ≤ 9223372036854775807) :
    Calls Tryd.prog 19 #[.string s, .int .i64 size] w fun e w' => e = .returned (.string ⟨(Cs.fitR s.data.toList size).toArray⟩) ∧ Below w.heap.size w w' := by
  have cC := characters_any s w hT hs
  have cS := fun W => sized_any size W
  by_cases h0 : (Cs.charsR s.data.toList).2 = 0
  case neg =>
    have HR := Lib.hid (Cs.fitR_no (l := s.data.toList) (size := size) (fun h => h0 h.1))
    generalize (Cs.charsR s.data.toList).1 = cs at *
    generalize (Cs.charsR s.data.toList).2 = er at *
    have h0'' : (er != 0) = true := by rw [bne_iff_ne]; exact h0
    have CC := Lib.hid cC
    clear cC cS h0
    go_enter Tryd.func19, Tryd.ntmps19
    go_wp2_with fail
    with_reducible refine CC.out.mono ?_
    rintro e w2 ⟨v, rfl, _, hb2⟩
    go_wp2_with fail
    go_ret
    rw [HR.out]
    exact ⟨rfl, hb2⟩
  case pos =>
  obtain ⟨hl, hch⟩ := Cs.charsR_zero h0
  have hs1 : ¬ (65536 : Int) < (s.size : Int) := by simp at hl; omega
  by_cases hz : Cs.sized size = true
  case neg =>
    have HR := Lib.hid (Cs.fitR_no (l := s.data.toList) (size := size) (fun h => hz h.2))
    have hz' : Cs.sized size = false := by simpa using hz
    rw [hz'] at cS
    rw [h0] at cC
    generalize (Cs.charsR s.data.toList).1 = cs at *
    have CC := Lib.hid cC
    have CS := Lib.hid cS
    clear cC cS h0 hz hz' hl hch
    go_enter Tryd.func19, Tryd.ntmps19
    go_wp2_with fail
    with_reducible refine CC.out.mono ?_
    rintro e w2 ⟨v, rfl, _, hb2⟩
    go_wp2_with fail
    with_reducible refine (CS.out _).mono ?_
    rintro e w3 ⟨rfl, rfl⟩
    go_wp2_with fail
    go_ret
    rw [HR.out]
    exact ⟨rfl, hb2⟩
  case pos =>
  have hR := Cs.fitR_ok h0 hz
  obtain ⟨hz2, hz255⟩ := (sized_iff _).1 hz
  rw [hz] at cS
  rw [h0] at cC
  have hall := Cs.chars_all hch
  generalize (Cs.charsR s.data.toList).1 = cs at *
  obtain ⟨m, rfl⟩ : ∃ m : Nat, size = m := ⟨size.toNat, by omega⟩
  rw [Int.toNat_natCast] at hR
  have HR := Lib.hid hR
  have HALL := Lib.hid hall
  have CC := Lib.hid cC
  have CS := Lib.hid cS
  have hcl : cs.length ≤ 65536 := by have := (Cs.chars_len hch).1; omega
  have HT := Lib.hid hT
  clear cC cS h0 hz hl hch hR hall hT
  go_enter Tryd.func19, Tryd.ntmps19
  go_wp2_with fail
  with_reducible refine CC.out.mono ?_
  rintro e w2 ⟨v, rfl, hown, hb2⟩
  have hrow := Kit.Row.of_own hown
  clear hown
  obtain ⟨A, c, rfl⟩ : ∃ A c, v = .slice A cs.length c := by
    obtain ⟨A, c, e, _⟩ := hrow
    rw [Kit.ints_length] at e
    exact ⟨A, c, e⟩
  have hlc : cs.length ≤ c ∧ c ≤ 9223372036854775807 := by
    obtain ⟨A', c', he, h1, h2, _⟩ := hrow
    injection he with _ _ e3
    rw [Kit.ints_length] at h1
    unfold maxLen at h2
    omega
  obtain ⟨hlc1, hlc2⟩ := hlc
  have HROW := Lib.hid hrow
  clear hrow
  go_wp2_with fail
  with_reducible refine (CS.out _).mono ?_
  rintro e w3 ⟨rfl, rfl⟩
  go_wp2_with fail
  go_loopw [7] (fun nv wr => ∃ k : Nat, nv = .int .i64 k ∧ k ≤ cs.length ∧ k ≤ m ∧ Hid (Cs.fitN cs m (min cs.length m) = Cs.fitN cs m k) ∧ Below w2.heap.size w2 wr) (fun nv _ => (intOf nv).toNat)
  case atStart => exact ⟨min cs.length m, congrArg (Value.int .i64) (by omega), by omega, by omega, Lib.hid rfl, Below.refl _ _⟩
  case round =>
    obtain ⟨k, rfl, hkl, hkm, HF, hbw⟩ := hrel
    have hszw := hbw.size
    by_cases hk0 : 0 < k
    · obtain ⟨n, rfl⟩ : ∃ n, k = n + 1 := ⟨k - 1, by omega⟩
      have hk0' : (0 : Int) < ((n + 1 : Nat) : Int) := by omega
      have hkc : ((n + 1 : Nat) : Int) ≤ (c : Int) := by omega
      have hall := Cs.allChars_take HALL.out (n + 1)
      have hlen : (cs.take (n + 1)).length ≤ 255 := by rw [List.length_take]; omega
      have cX := fun W hr => text_any (.slice A (n + 1) c) ((cs.take (n + 1)).map fun (x : Nat) => (x : Int)) W hr (by
        intro z hz
        obtain ⟨x, hx, rfl⟩ := List.mem_map.1 hz
        have := Cs.isChar_le (List.all_eq_true.1 hall x hx)
        omega)
      rw [Cs.text_textR _ hall (by omega)] at cX
      have htl := Cs.text_len (cs.take (n + 1))
      have cP := fun W hT => compress_any ⟨(Cs.text (cs.take (n + 1))).toArray⟩ W hT (by simp only [ByteArray.size, List.size_toArray]; omega)
      rw [Cs.compress_text _ hall hlen] at cP
      have CX := Lib.hid cX
      have CP := Lib.hid cP
      have hyes := Cs.fitN_yes (cs := cs) (size := m) (n := n)
      have hno := Cs.fitN_no (cs := cs) (size := m) (n := n)
      have hsql := Cs.squeeze_len_le (cs.take (n + 1))
      have HQ := Lib.hid (show (⟨(Cs.squeeze (cs.take (n + 1))).toArray⟩ : ByteArray).size = (Cs.squeeze (cs.take (n + 1))).length by simp [ByteArray.size])
      by_cases hq : ((Cs.squeeze (cs.take (n + 1))).length : Int) ≤ m - 1
      · have HY := Lib.hid (hyes hq)
        clear hyes hno cX cP hall
        go_wp2_with fail
        with_reducible refine (CX.out _ (row_take (HROW.out.below hbw) hkl)).mono ?_
        rintro e w4 ⟨rfl, hb4⟩
        go_wp2_with fail
        with_reducible refine (CP.out _ (Kit.tabs_below HT.out (hb2.trans ((hbw.trans (hb4.mono hszw)).mono hb2.size)))).mono ?_
        rintro e w5 ⟨rfl, hb5⟩
        go_wp2_with fail
        go_ret
        rw [HR.out, HF.out, HY.out]
        exact ⟨rfl, hb2.trans ((hbw.trans ((hb4.mono hszw).trans (hb5.mono (Nat.le_trans hszw hb4.size)))).mono hb2.size)⟩
      · have HN := Lib.hid (hno hq)
        clear hyes hno cX cP hall
        go_wp2_with fail
        with_reducible refine (CX.out _ (row_take (HROW.out.below hbw) hkl)).mono ?_
        rintro e w4 ⟨rfl, hb4⟩
        go_wp2_with fail
        with_reducible refine (CP.out _ (Kit.tabs_below HT.out (hb2.trans ((hbw.trans (hb4.mono hszw)).mono hb2.size)))).mono ?_
        rintro e w5 ⟨rfl, hb5⟩
        go_wp2_with fail
        go_roundw
        case rel => exact ⟨n, by go_num, by omega, by omega, Lib.hid (HF.out.trans HN.out), hbw.trans ((hb4.mono hszw).trans (hb5.mono (Nat.le_trans hszw hb4.size)))⟩
        case measure => simp [intOf]
    · obtain rfl : k = 0 := by omega
      go_wp2_with fail
      go_ret
      rw [HR.out, HF.out]
      exact ⟨rfl, hb2.trans (hbw.mono hb2.size)⟩
end Go.Proofs.YtfdlnhflgiemiaaDoor

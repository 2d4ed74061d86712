/-
  The walk through the law UdfstringReturns.
-/
import Derived.Test.YtfdlnhflgiemiaaDoorAw
import Derived.Test.YtfdlnhflgiemiaaDoorUt
namespace Go.Proofs.YtfdlnhflgiemiaaDoor
open Go.RowKit

theorem lb_size (l : List UInt8) : (⟨l.toArray⟩ : ByteArray).size = l.length := by simp [ByteArray.size]

set_option maxHeartbeats 3200000 in
set_option maxRecDepth 100000 in
theorem law3_any (s : ByteArray) (z : Int) (w : World) (hT : Lib.Utf8Tabs 0 1 w) (hs : s.size ≤ 9223372036854775807) (hz : (Lit.int .i64 z).wf = true) :
    Calls Tryd.prog 5 #[.string s, .int .i64 z] w fun e w' => e = .returned (.bool true) ∧ Below w.heap.size w w' := by
  have C0 := Lib.hid (awake_any w hT)
  have c1 := fun W h => compress_any s W h hs
  have c3 := fun W h => dstring_any s z W h hs
  have HT := Lib.hid hT
  have hzb := bounds_i64 hz
  obtain ⟨hz0, hz1⟩ := hzb
  clear hT hz
  by_cases h1 : s.size ≤ 300
  case neg =>
    have h1' : (300 : Int) < (s.size : Int) := by omega
    clear c1 c3
    go_enter Tryd.func5, Tryd.ntmps5
    go_wp2_with fail
    with_reducible refine C0.out.mono ?_
    rintro e w1 ⟨rfl, hb1⟩
    go_wp2_with fail
    go_ret
    exact ⟨rfl, hb1⟩
  have h1' : ¬ (300 : Int) < (s.size : Int) := by omega
  have hsl : s.data.toList.length ≤ 300 := by rw [Kit.len_size]; exact h1
  by_cases hc : (Cs.compressR s.data.toList).2 = 0
  case neg =>
    rw [Cs.compress_err3 hc hsl] at c1
    have C1 := Lib.hid c1
    clear c1 c3 hc hsl
    go_enter Tryd.func5, Tryd.ntmps5
    go_wp2_with fail
    with_reducible refine C0.out.mono ?_
    rintro e w1 ⟨rfl, hb1⟩
    go_wp2_with fail
    with_reducible refine (C1.out _ (Kit.tabs_below HT.out hb1)).mono ?_
    rintro e w2 ⟨rfl, hb2⟩
    have hc2 := hb1.trans (hb2.mono hb1.size)
    go_wp2_with fail
    go_ret
    exact ⟨rfl, hc2⟩
  have hex := Cs.expand_compress hc hsl
  have hpd := fun h hf => Cs.parse_dstr (size := z) h hc hsl hf
  have hdf := fun h hf => Cs.dstr_full (size := z) h hc hf
  have hda := fun h => Cs.dstr_arg (l := s.data.toList) (size := z) h
  have hdo := fun h hf => Cs.dstr_ok (size := z) h hc hf
  have hsq : (Cs.compressR s.data.toList).1.length ≤ 601 := by
    have := Cs.expand_compress hc hsl
    by_cases h0 : (Cs.charsR s.data.toList).2 = 0
    · obtain ⟨hl', hcc⟩ := Cs.charsR_zero h0
      rw [Cs.compressR_ok hl' hcc]
      have := Cs.squeeze_len_le (Cs.charsR s.data.toList).1
      have := (Cs.chars_len hcc).1
      dsimp only
      omega
    · rw [Cs.compressR_err h0] at hc
      exact absurd hc h0
  rw [hc] at c1
  have c2 := fun W => expand_any ⟨(Cs.compressR s.data.toList).1.toArray⟩ W (by rw [lb_size]; omega)
  simp only [hex] at c2
  generalize (Cs.compressR s.data.toList).1 = d at *
  have C1 := Lib.hid c1
  have C2 := Lib.hid c2
  clear c1 c2 hc hsl hex
  have hsz := Cs.sized_iff' z
  by_cases hz2 : 2 ≤ z ∧ z ≤ 255
  case neg =>
    have hzf : Cs.sized z = false := by
      cases h : Cs.sized z with
      | false => rfl
      | true => exact absurd (hsz.1 h) hz2
    rw [hda hzf] at c3
    have C3 := Lib.hid c3
    clear c3 hpd hdf hda hdo hzf hsz
    by_cases h2 : z < 2
    · clear hz2
      go_enter Tryd.func5, Tryd.ntmps5
      go_wp2_with fail
      with_reducible refine C0.out.mono ?_
      rintro e w1 ⟨rfl, hb1⟩
      go_wp2_with fail
      with_reducible refine (C1.out _ (Kit.tabs_below HT.out hb1)).mono ?_
      rintro e w2 ⟨rfl, hb2⟩
      have hc2 := hb1.trans (hb2.mono hb1.size)
      go_wp2_with fail
      with_reducible refine (C2.out _).mono ?_
      rintro e w3 ⟨rfl, hb3⟩
      have hc3 := hc2.trans (hb3.mono hc2.size)
      go_wp2_with fail
      with_reducible refine (C3.out _ (Kit.tabs_below HT.out hc3)).mono ?_
      rintro e w4 ⟨rfl, hb4⟩
      have hc4 := hc3.trans (hb4.mono hc3.size)
      go_wp2_with fail
      go_ret
      exact ⟨rfl, hc4⟩
    · have h255 : 255 < z := by omega
      clear hz2
      go_enter Tryd.func5, Tryd.ntmps5
      go_wp2_with fail
      with_reducible refine C0.out.mono ?_
      rintro e w1 ⟨rfl, hb1⟩
      go_wp2_with fail
      with_reducible refine (C1.out _ (Kit.tabs_below HT.out hb1)).mono ?_
      rintro e w2 ⟨rfl, hb2⟩
      have hc2 := hb1.trans (hb2.mono hb1.size)
      go_wp2_with fail
      with_reducible refine (C2.out _).mono ?_
      rintro e w3 ⟨rfl, hb3⟩
      have hc3 := hc2.trans (hb3.mono hc2.size)
      go_wp2_with fail
      with_reducible refine (C3.out _ (Kit.tabs_below HT.out hc3)).mono ?_
      rintro e w4 ⟨rfl, hb4⟩
      have hc4 := hc3.trans (hb4.mono hc3.size)
      go_wp2_with fail
      go_ret
      exact ⟨rfl, hc4⟩
  have hzt : Cs.sized z = true := hsz.2 hz2
  obtain ⟨hz2l, hz2r⟩ := hz2
  by_cases hf : z - 1 < d.length
  · rw [hdf hzt hf] at c3
    have C3 := Lib.hid c3
    clear c3 hpd hdf hda hdo hzt hsz
    go_enter Tryd.func5, Tryd.ntmps5
    go_wp2_with fail
    with_reducible refine C0.out.mono ?_
    rintro e w1 ⟨rfl, hb1⟩
    go_wp2_with fail
    with_reducible refine (C1.out _ (Kit.tabs_below HT.out hb1)).mono ?_
    rintro e w2 ⟨rfl, hb2⟩
    have hc2 := hb1.trans (hb2.mono hb1.size)
    go_wp2_with fail
    with_reducible refine (C2.out _).mono ?_
    rintro e w3 ⟨rfl, hb3⟩
    have hc3 := hc2.trans (hb3.mono hc2.size)
    go_wp2_with fail
    with_reducible refine (C3.out _ (Kit.tabs_below HT.out hc3)).mono ?_
    rintro e w4 ⟨rfl, hb4⟩
    have hc4 := hc3.trans (hb4.mono hc3.size)
    go_wp2_with fail
    go_ret
    exact ⟨rfl, hc4⟩
  · obtain ⟨hlen, hpar⟩ := hpd hzt hf
    have hdo2 : (Cs.dstrR s.data.toList z).2 = 0 := by rw [hdo hzt hf]
    rw [hdo2] at c3
    have c4 := fun W => parse_any ⟨(Cs.dstrR s.data.toList z).1.toArray⟩ W (by rw [lb_size]; omega)
    simp only [hpar] at c4
    generalize (Cs.dstrR s.data.toList z).1 = f at *
    have C3 := Lib.hid c3
    have C4 := Lib.hid c4
    clear c3 c4 hpd hdf hda hdo hzt hsz hpar hdo2
    have hlen' : ((f.length : Int) == z) = true := by rw [beq_iff_eq]; exact hlen
    have HLEN := Lib.hid hlen
    clear hlen
    go_enter Tryd.func5, Tryd.ntmps5
    go_wp2_with fail
    with_reducible refine C0.out.mono ?_
    rintro e w1 ⟨rfl, hb1⟩
    go_wp2_with fail
    with_reducible refine (C1.out _ (Kit.tabs_below HT.out hb1)).mono ?_
    rintro e w2 ⟨rfl, hb2⟩
    have hc2 := hb1.trans (hb2.mono hb1.size)
    go_wp2_with fail
    with_reducible refine (C2.out _).mono ?_
    rintro e w3 ⟨rfl, hb3⟩
    have hc3 := hc2.trans (hb3.mono hc2.size)
    go_wp2_with fail
    with_reducible refine (C3.out _ (Kit.tabs_below HT.out hc3)).mono ?_
    rintro e w4 ⟨rfl, hb4⟩
    have hc4 := hc3.trans (hb4.mono hc3.size)
    go_wp2_with fail
    with_reducible refine (C4.out _).mono ?_
    rintro e w5 ⟨rfl, hb5⟩
    have hc5 := hc4.trans (hb5.mono hc4.size)
    go_wp2_with fail
    go_ret
    exact ⟨rfl, hc5⟩
end Go.Proofs.YtfdlnhflgiemiaaDoor

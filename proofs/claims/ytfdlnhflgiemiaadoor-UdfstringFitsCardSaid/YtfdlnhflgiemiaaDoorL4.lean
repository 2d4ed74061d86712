/-
  The walk through the law UdfstringFits.
-/
import Derived.Test.YtfdlnhflgiemiaaDoorL3
namespace Go.Proofs.YtfdlnhflgiemiaaDoor
open Go.RowKit

theorem fit_none {l : List UInt8} {z : Int} (h : (Cs.compressR l).2 ≠ 0) : Cs.fitR l z = [] := by
  refine Cs.fitR_no fun hh => h ?_
  obtain ⟨hl, hc⟩ := Cs.charsR_zero hh.1
  rw [Cs.compressR_ok hl hc]

set_option maxHeartbeats 3200000 in
set_option maxRecDepth 100000 in
theorem law4_any (s : ByteArray) (z : Int) (w : World) (hT : Lib.Utf8Tabs 0 1 w) (hs : s.size ≤ 9223372036854775807) (hz : (Lit.int .i64 z).wf = true) :
    Calls Tryd.prog 6 #[.string s, .int .i64 z] w fun e w' => e = .returned (.bool true) ∧ Below w.heap.size w w' := by
  have C0 := Lib.hid (awake_any w hT)
  have c1 := fun W h => compress_any s W h hs
  have c2 := fun W h => fit_any s z W h hs
  have HT := Lib.hid hT
  obtain ⟨hz0, hz1⟩ := bounds_i64 hz
  clear hT hz
  by_cases h1 : s.size ≤ 300
  case neg =>
    have h1' : (300 : Int) < (s.size : Int) := by omega
    clear c1 c2
    go_enter Tryd.func6, Tryd.ntmps6
    go_wp2_with fail
    with_reducible refine C0.out.mono ?_
    rintro e w1 ⟨rfl, hb1⟩
    go_wp2_with fail
    go_ret
    exact ⟨rfl, hb1⟩
  have h1' : ¬ (300 : Int) < (s.size : Int) := by omega
  have hsl : s.data.toList.length ≤ 300 := by rw [Kit.len_size]; exact h1
  have hbad : (Cs.compressR s.data.toList).2 ≠ 0 ∨ z < 2 ∨ 255 < z → Cs.fitR s.data.toList z = [] := by
    rintro (h | h)
    · exact fit_none h
    · exact Cs.fitR_no fun hh => by have := (Cs.sized_iff' z).1 hh.2; omega
  by_cases hc : (Cs.compressR s.data.toList).2 = 0
  case neg =>
    rw [hbad (.inl hc)] at c2
    rw [Cs.compress_err3 hc hsl] at c1
    have C1 := Lib.hid c1
    have C2 := Lib.hid c2
    clear c1 c2 hc hsl hbad
    go_enter Tryd.func6, Tryd.ntmps6
    go_wp2_with fail
    with_reducible refine C0.out.mono ?_
    rintro e w1 ⟨rfl, hb1⟩
    go_wp2_with fail
    with_reducible refine (C2.out _ (Kit.tabs_below HT.out hb1)).mono ?_
    rintro e w2 ⟨rfl, hb2⟩
    have hc2 := hb1.trans (hb2.mono hb1.size)
    go_wp2_with fail
    with_reducible refine (C1.out _ (Kit.tabs_below HT.out hc2)).mono ?_
    rintro e w3 ⟨rfl, hb3⟩
    have hc3 := hc2.trans (hb3.mono hc2.size)
    go_wp2_with fail
    go_ret
    exact ⟨rfl, hc3⟩
  have hfs := fun h => Cs.fit_spec (size := z) h hc
  rw [hc] at c1
  generalize (Cs.compressR s.data.toList).1 = d at c1
  have C1 := Lib.hid c1
  clear c1
  by_cases h2 : z < 2
  · rw [hbad (.inr (.inl h2))] at c2
    have C2 := Lib.hid c2
    clear c2 hc hsl hbad hfs
    go_enter Tryd.func6, Tryd.ntmps6
    go_wp2_with fail
    with_reducible refine C0.out.mono ?_
    rintro e w1 ⟨rfl, hb1⟩
    go_wp2_with fail
    with_reducible refine (C2.out _ (Kit.tabs_below HT.out hb1)).mono ?_
    rintro e w2 ⟨rfl, hb2⟩
    have hc2 := hb1.trans (hb2.mono hb1.size)
    go_wp2_with fail
    with_reducible refine (C1.out _ (Kit.tabs_below HT.out hc2)).mono ?_
    rintro e w3 ⟨rfl, hb3⟩
    have hc3 := hc2.trans (hb3.mono hc2.size)
    go_wp2_with fail
    go_ret
    exact ⟨rfl, hc3⟩
  by_cases h255 : 255 < z
  · rw [hbad (.inr (.inr h255))] at c2
    have C2 := Lib.hid c2
    clear c2 hc hsl hbad hfs
    go_enter Tryd.func6, Tryd.ntmps6
    go_wp2_with fail
    with_reducible refine C0.out.mono ?_
    rintro e w1 ⟨rfl, hb1⟩
    go_wp2_with fail
    with_reducible refine (C2.out _ (Kit.tabs_below HT.out hb1)).mono ?_
    rintro e w2 ⟨rfl, hb2⟩
    have hc2 := hb1.trans (hb2.mono hb1.size)
    go_wp2_with fail
    with_reducible refine (C1.out _ (Kit.tabs_below HT.out hc2)).mono ?_
    rintro e w3 ⟨rfl, hb3⟩
    have hc3 := hc2.trans (hb3.mono hc2.size)
    go_wp2_with fail
    go_ret
    exact ⟨rfl, hc3⟩
  obtain ⟨cs, k, hch, hk, hfit, hds, hful⟩ := hfs ((Cs.sized_iff' z).2 (by omega))
  rw [hfit] at c2
  have htc := Cs.text_chars hch
  have hall := Cs.chars_all hch
  have hxp : Lib.hasPrefix s.data.toList (Cs.text (cs.take k)) = true := by
    rw [← htc]
    have e : Cs.text cs = Cs.text (cs.take k) ++ Cs.text (cs.drop k) := by
      unfold Cs.text
      rw [← List.flatMap_append, List.take_append_drop]
    rw [e]
    simp [Lib.hasPrefix]
  have hxl : (Cs.text (cs.take k)).length ≤ s.size := by
    rw [← Kit.len_size, ← htc]
    have e : Cs.text cs = Cs.text (cs.take k) ++ Cs.text (cs.drop k) := by
      unfold Cs.text
      rw [← List.flatMap_append, List.take_append_drop]
    rw [e, List.length_append]
    omega
  have c3 := fun W h => dstring_any ⟨(Cs.text (cs.take k)).toArray⟩ z W h (by rw [lb_size]; omega)
  simp only [hds] at c3
  have hp := fun W => Tryd.strings_HasPrefix s ⟨(Cs.text (cs.take k)).toArray⟩ W
  simp only [hxp] at hp
  by_cases hkl : k = cs.length
  · have hxe : (Cs.text (cs.take k) == s.toList) = true := by
      rw [Lib.toList_data, hkl, List.take_length, htc]
      simp
    generalize (Cs.dstrR (Cs.text (cs.take k)) z).1 = f at c3
    generalize Cs.text (cs.take k) = xl at *
    have C2 := Lib.hid c2
    have C3 := Lib.hid c3
    have HP := Lib.hid hp
    clear c2 c3 hp hfit hds hful hxp htc hall hch hfs hbad hc hsl hkl hk
    go_enter Tryd.func6, Tryd.ntmps6
    go_wp2_with fail
    with_reducible refine C0.out.mono ?_
    rintro e w1 ⟨rfl, hb1⟩
    go_wp2_with fail
    with_reducible refine (C2.out _ (Kit.tabs_below HT.out hb1)).mono ?_
    rintro e w2 ⟨rfl, hb2⟩
    have hc2 := hb1.trans (hb2.mono hb1.size)
    go_wp2_with fail
    with_reducible refine (C1.out _ (Kit.tabs_below HT.out hc2)).mono ?_
    rintro e w3 ⟨rfl, hb3⟩
    have hc3 := hc2.trans (hb3.mono hc2.size)
    go_wp2_with fail
    with_reducible refine (C3.out _ (Kit.tabs_below HT.out hc3)).mono ?_
    rintro e w4 ⟨rfl, hb4⟩
    have hc4 := hc3.trans (hb4.mono hc3.size)
    go_wp2_with fail
    with_reducible refine (HP.out _).mono ?_
    rintro e w5 ⟨rfl, rfl⟩
    go_wp2_with fail
    go_ret
    exact ⟨rfl, hc4⟩
  · obtain ⟨hd1, hd2, hd3⟩ := Cs.dec_drop hall (k := k) (by omega)
    rw [htc] at hd1 hd2 hd3
    rw [Kit.len_size] at hd3
    have hful' := hful (by omega)
    generalize Cs.enc ((cs.getD k 0 : Nat) : Int) = en at hd1 hd2
    have hm : (Cs.text (cs.take k)).length + en.length ≤ s.size := by
      have hw := Cs.dec_width (by rw [List.length_drop, Kit.len_size]; omega) hd1
      rw [List.length_drop, Kit.len_size] at hw
      omega
    have hw1 := (Cs.dec_width (by rw [List.length_drop, Kit.len_size]; omega) hd1).1
    have hxe : (Cs.text (cs.take k) == s.toList) = false := by
      rw [Lib.toList_data, beq_eq_false_iff_ne]
      intro e
      have := congrArg List.length e
      rw [Kit.len_size] at this
      omega
    have hrest : (s.extract (Cs.text (cs.take k)).length s.size).data.toList = s.data.toList.drop (Cs.text (cs.take k)).length := Lib.extract_to_end s _
    have cD := fun W h => Tryd.utf8_DecodeRuneInString (s.extract (Cs.text (cs.take k)).length s.size) W h
    rw [go_of_dec (s.extract (Cs.text (cs.take k)).length s.size) (by rw [extract_size]; omega) (by rw [hrest]; exact hd1)] at cD
    have cF := fun W h => dstring_any (s.extract 0 ((Cs.text (cs.take k)).length + en.length)) z W h (by simp; omega)
    have hext : (s.extract 0 ((Cs.text (cs.take k)).length + en.length)).data.toList = Cs.text (cs.take (k + 1)) := by
      rw [← hd2, Lib.extract_data]
      simp
    simp only [hext, hful'] at cF
    generalize (Cs.dstrR (Cs.text (cs.take k)) z).1 = f at c3
    generalize Cs.text (cs.take k) = xl at *
    have C2 := Lib.hid c2
    have C3 := Lib.hid c3
    have CD := Lib.hid cD
    have CF := Lib.hid cF
    have HP := Lib.hid hp
    generalize en.length = m at *
    have hm1 : (xl.length : Int) + (m : Int) ≤ (s.size : Int) := by omega
    clear c2 c3 cD cF hp hfit hds hful hful' hxp htc hall hch hfs hbad hc hsl hkl hk hd1 hd2 hrest hext
    go_enter Tryd.func6, Tryd.ntmps6
    go_wp2_with fail
    with_reducible refine C0.out.mono ?_
    rintro e w1 ⟨rfl, hb1⟩
    go_wp2_with fail
    with_reducible refine (C2.out _ (Kit.tabs_below HT.out hb1)).mono ?_
    rintro e w2 ⟨rfl, hb2⟩
    have hc2 := hb1.trans (hb2.mono hb1.size)
    go_wp2_with fail
    with_reducible refine (C1.out _ (Kit.tabs_below HT.out hc2)).mono ?_
    rintro e w3 ⟨rfl, hb3⟩
    have hc3 := hc2.trans (hb3.mono hc2.size)
    go_wp2_with fail
    with_reducible refine (C3.out _ (Kit.tabs_below HT.out hc3)).mono ?_
    rintro e w4 ⟨rfl, hb4⟩
    have hc4 := hc3.trans (hb4.mono hc3.size)
    go_wp2_with fail
    with_reducible refine (HP.out _).mono ?_
    rintro e w5 ⟨rfl, rfl⟩
    go_wp2_with fail
    with_reducible refine (CD.out _ (Kit.tabs_below HT.out hc4)).mono ?_
    rintro e w6 ⟨rfl, hb6⟩
    have hc6 := hc4.trans (hb6.mono hc4.size)
    go_wp2_with fail
    with_reducible refine (CF.out _ (Kit.tabs_below HT.out hc6)).mono ?_
    rintro e w7 ⟨rfl, hb7⟩
    have hc7 := hc6.trans (hb7.mono hc6.size)
    go_wp2_with fail
    go_ret
    exact ⟨rfl, hc7⟩
end Go.Proofs.YtfdlnhflgiemiaaDoor

/-
  The walk through the law CharsetUpper.
-/
import Derived.Test.YtdcknfdileomoaaDoorAx
import Derived.Test.YtdcknfdileomoaaDoorC2
import Derived.Test.YtdcknfdileomoaaDoorLu
import Derived.Test.YtdcknfdileomoaaDoorR17b
namespace Go.Proofs.YtdcknfdileomoaaDoor
open Go.RowKit

set_option maxHeartbeats 1600000 in
set_option maxRecDepth 100000 in
/-- masterdiscref17.IsText. -/
theorem isText_any (s : ByteArray) (w : World) (hs : s.size ≤ 9223372036854775807) :
    Calls Tryd.prog 37 #[.string s] w fun e w' => e = .returned (.bool (decide ((Cs.charsR s.data.toList).2 = 0))) ∧ Below w.heap.size w w' := by
  have cC := rCharacters_any s w hs
  generalize (Cs.charsR s.data.toList).1 = cs at *
  generalize (Cs.charsR s.data.toList).2 = er at *
  have CC := Lib.hid cC
  clear cC
  by_cases h0 : er = 0
  · subst h0
    go_enter Tryd.func37, Tryd.ntmps37
    go_wp2_with fail
    with_reducible refine CC.out.mono ?_
    rintro e w2 ⟨v, rfl, _, hb2⟩
    go_wp2_with fail
    go_ret
    exact ⟨rfl, hb2⟩
  · rw [decide_eq_false h0]
    have h0' : (er == 0) = false := by rw [beq_eq_false_iff_ne]; exact h0
    clear h0
    go_enter Tryd.func37, Tryd.ntmps37
    go_wp2_with fail
    with_reducible refine CC.out.mono ?_
    rintro e w2 ⟨v, rfl, _, hb2⟩
    go_wp2_with fail
    go_ret
    exact ⟨rfl, hb2⟩

set_option maxHeartbeats 3200000 in
set_option maxRecDepth 100000 in
theorem law7_any (s : ByteArray) (w : World) (hT : Lib.Utf8Tabs 1 2 w) (hs : s.size ≤ 9223372036854775807) :
    Calls Tryd.prog 9 #[.string s] w fun e w' => e = .returned (.bool true) ∧ Below w.heap.size w w' := by
  have C0 := Lib.hid (awake_any w hT)
  have hdl := Kit.len_size s
  have HT := Lib.hid hT
  by_cases hg : 300 < s.size
  · have h1' : (300 : Int) < (s.size : Int) := by omega
    clear hdl hg hT
    go_enter Tryd.func9, Tryd.ntmps9
    go_wp2_with fail
    with_reducible refine C0.out.mono ?_
    rintro e w1 ⟨rfl, hb1⟩
    go_wp2_with fail
    go_ret
    exact ⟨rfl, hb1⟩
  have h1' : ¬ (300 : Int) < (s.size : Int) := by omega
  have hl : s.data.toList.length ≤ 65536 := by omega
  have c1 := fun W => upper_any s W hs
  have hul := Cs.upperR_len hl
  have c2 := fun W => upper_any ⟨(Cs.upperR s.data.toList).toArray⟩ W (by simp [ByteArray.size]; omega)
  simp only [Cs.upperR_twice hl] at c2
  have c3 := fun W h => characters_any s W h hs
  have c4 := fun W => isText_any ⟨(Cs.upperR s.data.toList).toArray⟩ W (by simp [ByteArray.size]; omega)
  have hch := Cs.charsR_up hl
  have c5 := fun W => dchars_any s W hs
  have c6 := fun W => achars_any s W hs
  have hda := fun h => Cs.dch_ach (l := s.data.toList) h
  have htx : ∀ x, (x = (Cs.charsR s.data.toList).2) → decide ((Cs.charsR (Cs.upperR s.data.toList)).2 = 0) = decide (x = 0) := by
    rintro x rfl
    rw [decide_eq_decide]
    exact hch.symm
  simp only [htx _ rfl] at c4
  rw [hdl] at hul
  clear htx hch hl hdl hT
  generalize Cs.upperR s.data.toList = ul at *
  generalize Cs.achR s.data.toList = ar at *
  generalize (Cs.charsR s.data.toList).1 = cs at *
  generalize (Cs.charsR s.data.toList).2 = er at *
  have hcase : (er = 0 ∧ decide (er = 0) = true ∧ (er == 0) = true) ∨ (¬ er = 0 ∧ decide (er = 0) = false ∧ (er == 0) = false) := by
    by_cases h : er = 0
    · left; subst h; exact ⟨rfl, rfl, rfl⟩
    · right; exact ⟨h, decide_eq_false h, by rw [beq_eq_false_iff_ne]; exact h⟩
  have hlz : ((ul.length : Int) != (s.size : Int)) = false := by rw [bne_eq_false_iff_eq]; omega
  have C1 := Lib.hid c1; have C2 := Lib.hid c2; have C3 := Lib.hid c3
  clear c1 c2 c3
  by_cases hD : Cs.dchR s.data.toList = true
  · obtain ⟨hA, hU⟩ := hda hD
    have hus : (ul == s.toList) = true := by rw [Lib.toList_data, hU]; simp
    simp only [hD] at c5
    simp only [hA] at c6
    have C5 := Lib.hid c5; have C6 := Lib.hid c6
    clear c5 c6 hD hA hU hda
    rcases hcase with ⟨h0, h0d, h0b⟩ | ⟨h0, h0d, h0b⟩
    all_goals
      simp only [h0d] at c4
      have C4 := Lib.hid c4
      clear c4 h0d
      try subst h0
      go_enter Tryd.func9, Tryd.ntmps9
      go_wp2_with fail
      with_reducible refine C0.out.mono ?_
      rintro e w1 ⟨rfl, hb1⟩
      go_wp2_with fail
      with_reducible refine (C1.out _).mono ?_
      rintro e w2 ⟨rfl, hb2⟩
      have hc2 := hb1.trans (hb2.mono hb1.size)
      go_wp2_with fail
      with_reducible refine (C2.out _).mono ?_
      rintro e w3 ⟨rfl, hb3⟩
      have hc3 := hc2.trans (hb3.mono hc2.size)
      go_wp2_with fail
      with_reducible refine (C3.out _ (Kit.tabs_below HT.out hc3)).mono ?_
      rintro e w4 ⟨v, rfl, _, hb4⟩
      have hc4 := hc3.trans (hb4.mono hc3.size)
      go_wp2_with fail
      with_reducible refine (C4.out _).mono ?_
      rintro e w5 ⟨rfl, hb5⟩
      have hc5 := hc4.trans (hb5.mono hc4.size)
      go_wp2_with fail
      with_reducible refine (C5.out _).mono ?_
      rintro e w6 ⟨rfl, hb6⟩
      have hc6 := hc5.trans (hb6.mono hc5.size)
      go_wp2_with fail
      with_reducible refine (C6.out _).mono ?_
      rintro e w7 ⟨rfl, hb7⟩
      have hc7 := hc6.trans (hb7.mono hc6.size)
      go_wp2_with fail
      go_ret
      exact ⟨rfl, hc7⟩
  · have hD' : Cs.dchR s.data.toList = false := by simpa using hD
    simp only [hD'] at c5
    have C5 := Lib.hid c5
    clear c5 c6 hD hD' hda
    rcases hcase with ⟨h0, h0d, h0b⟩ | ⟨h0, h0d, h0b⟩
    all_goals
      simp only [h0d] at c4
      have C4 := Lib.hid c4
      clear c4 h0d
      try subst h0
      go_enter Tryd.func9, Tryd.ntmps9
      go_wp2_with fail
      with_reducible refine C0.out.mono ?_
      rintro e w1 ⟨rfl, hb1⟩
      go_wp2_with fail
      with_reducible refine (C1.out _).mono ?_
      rintro e w2 ⟨rfl, hb2⟩
      have hc2 := hb1.trans (hb2.mono hb1.size)
      go_wp2_with fail
      with_reducible refine (C2.out _).mono ?_
      rintro e w3 ⟨rfl, hb3⟩
      have hc3 := hc2.trans (hb3.mono hc2.size)
      go_wp2_with fail
      with_reducible refine (C3.out _ (Kit.tabs_below HT.out hc3)).mono ?_
      rintro e w4 ⟨v, rfl, _, hb4⟩
      have hc4 := hc3.trans (hb4.mono hc3.size)
      go_wp2_with fail
      with_reducible refine (C4.out _).mono ?_
      rintro e w5 ⟨rfl, hb5⟩
      have hc5 := hc4.trans (hb5.mono hc4.size)
      go_wp2_with fail
      with_reducible refine (C5.out _).mono ?_
      rintro e w6 ⟨rfl, hb6⟩
      have hc6 := hc5.trans (hb6.mono hc5.size)
      go_wp2_with fail
      go_ret
      exact ⟨rfl, hc6⟩
end Go.Proofs.YtdcknfdileomoaaDoor

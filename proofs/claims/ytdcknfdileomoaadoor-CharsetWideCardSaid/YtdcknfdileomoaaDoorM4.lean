/-
  The walk through the law CharsetWide.
-/
import Derived.Test.YtdcknfdileomoaaDoorAx
import Derived.Test.YtdcknfdileomoaaDoorG6
namespace Go.Proofs.YtdcknfdileomoaaDoor
open Go.RowKit

set_option maxHeartbeats 6400000 in
set_option maxRecDepth 100000 in
theorem law4_any (s u : ByteArray) (z : Int) (w : World) (hT : Lib.Utf8Tabs 1 2 w) (hs : s.size ≤ 9223372036854775807) (hu : u.size ≤ 9223372036854775807) (hz : (Lit.int .i64 z).wf = true) :
    Calls Tryd.prog 6 #[.string s, .string u, .int .i64 z] w fun e w' => e = .returned (.bool true) ∧ Below w.heap.size w w' := by
  obtain ⟨hz0, hz1⟩ := bounds_i64 hz
  have C0 := Lib.hid (awake_any w hT)
  have HT := Lib.hid hT
  have c1 := fun W h => ucs2_any s W h hs
  have c2 := fun W => rUcs2_any s W hs
  have c3 := fun W => from_any u W hu
  have c4 := fun W => rFrom_any u W hu
  have c5 := fun W h => wideField_any s z W h hs
  have c6 := fun W => rWideField_any s z W hs
  have c7 := fun W => wideTrim_any u W hu
  have c8 := fun W => rWideTrim_any u W hu
  generalize Cs.ucs2R s.data.toList = x1 at c1 c2
  generalize Cs.fromR u.data.toList = x2 at c3 c4
  generalize Cs.wideFieldR s.data.toList z = x3 at c5 c6
  generalize Cs.wideTrimR u.data.toList = x4 at c7 c8
  have C1 := Lib.hid c1; have C2 := Lib.hid c2; have C3 := Lib.hid c3; have C4 := Lib.hid c4
  have C5 := Lib.hid c5; have C6 := Lib.hid c6; have C7 := Lib.hid c7; have C8 := Lib.hid c8
  clear c1 c2 c3 c4 c5 c6 c7 c8 hT hz
  by_cases hg : 300 < s.size ∧ s.size ≤ 65536
  · obtain ⟨h1, h2⟩ := hg
    have h1' : (300 : Int) < (s.size : Int) := by omega
    have h2' : (s.size : Int) ≤ 65536 := by omega
    go_enter Tryd.func6, Tryd.ntmps6
    go_wp2_with fail
    with_reducible refine C0.out.mono ?_
    rintro e w1 ⟨rfl, hb1⟩
    go_wp2_with fail
    go_ret
    exact ⟨rfl, hb1⟩
  have hg' : (¬ (300 : Int) < (s.size : Int) ∧ True) ∨ ((65536 : Int) < (s.size : Int) ∧ (300 : Int) < (s.size : Int)) := by
    by_cases h : s.size ≤ 300
    · exact .inl ⟨by omega, trivial⟩
    · exact .inr ⟨by omega, by omega⟩
  clear hg
  by_cases hk : 300 < u.size ∧ u.size ≤ 65536
  · obtain ⟨h1, h2⟩ := hk
    have h3' : (300 : Int) < (u.size : Int) := by omega
    have h4' : (u.size : Int) ≤ 65536 := by omega
    rcases hg' with ⟨g, g'⟩ | ⟨g, g'⟩
    all_goals
      go_enter Tryd.func6, Tryd.ntmps6
      go_wp2_with fail
      with_reducible refine C0.out.mono ?_
      rintro e w1 ⟨rfl, hb1⟩
      go_wp2_with fail
      go_ret
      exact ⟨rfl, hb1⟩
  have hk' : (¬ (300 : Int) < (u.size : Int) ∧ True) ∨ ((65536 : Int) < (u.size : Int) ∧ (300 : Int) < (u.size : Int)) := by
    by_cases h : u.size ≤ 300
    · exact .inl ⟨by omega, trivial⟩
    · exact .inr ⟨by omega, by omega⟩
  clear hk
  by_cases hm : 1000 < z ∧ z ≤ 65536
  · obtain ⟨h5', h6'⟩ := hm
    rcases hg' with ⟨g, g'⟩ | ⟨g, g'⟩
    all_goals rcases hk' with ⟨k, k'⟩ | ⟨k, k'⟩
    all_goals
      go_enter Tryd.func6, Tryd.ntmps6
      go_wp2_with fail
      with_reducible refine C0.out.mono ?_
      rintro e w1 ⟨rfl, hb1⟩
      go_wp2_with fail
      go_ret
      exact ⟨rfl, hb1⟩
  have hm' : (¬ (1000 : Int) < z ∧ True) ∨ ((65536 : Int) < z ∧ (1000 : Int) < z) := by
    by_cases h : z ≤ 1000
    · exact .inl ⟨by omega, trivial⟩
    · exact .inr ⟨by omega, by omega⟩
  clear hm
  rcases hg' with ⟨g, g'⟩ | ⟨g, g'⟩
  all_goals rcases hk' with ⟨k, k'⟩ | ⟨k, k'⟩
  all_goals rcases hm' with ⟨m, m'⟩ | ⟨m, m'⟩
  all_goals
    go_enter Tryd.func6, Tryd.ntmps6
    go_wp2_with fail
    with_reducible refine C0.out.mono ?_
    rintro e w1 ⟨rfl, hb1⟩
    go_wp2_with fail
    with_reducible refine (C1.out _ (Kit.tabs_below HT.out hb1)).mono ?_
    rintro e w2 ⟨rfl, hb2⟩
    have hc2 := hb1.trans (hb2.mono hb1.size)
    go_wp2_with fail
    with_reducible refine (C2.out _).mono ?_
    rintro e w3 ⟨rfl, hb3⟩
    have hc3 := hc2.trans (hb3.mono hc2.size)
    go_wp2_with fail
    with_reducible refine (C3.out _).mono ?_
    rintro e w4 ⟨rfl, hb4⟩
    have hc4 := hc3.trans (hb4.mono hc3.size)
    go_wp2_with fail
    with_reducible refine (C4.out _).mono ?_
    rintro e w5 ⟨rfl, hb5⟩
    have hc5 := hc4.trans (hb5.mono hc4.size)
    go_wp2_with fail
    with_reducible refine (C5.out _ (Kit.tabs_below HT.out hc5)).mono ?_
    rintro e w6 ⟨rfl, hb6⟩
    have hc6 := hc5.trans (hb6.mono hc5.size)
    go_wp2_with fail
    with_reducible refine (C6.out _).mono ?_
    rintro e w7 ⟨rfl, hb7⟩
    have hc7 := hc6.trans (hb7.mono hc6.size)
    go_wp2_with fail
    with_reducible refine (C7.out _).mono ?_
    rintro e w8 ⟨rfl, hb8⟩
    have hc8 := hc7.trans (hb8.mono hc7.size)
    go_wp2_with fail
    with_reducible refine (C8.out _).mono ?_
    rintro e w9 ⟨rfl, hb9⟩
    have hc9 := hc8.trans (hb9.mono hc8.size)
    go_wp2_with fail
    go_ret
    exact ⟨rfl, hc9⟩
end Go.Proofs.YtdcknfdileomoaaDoor

/-
  The walk through the law CharsetFields.
-/
import Derived.Test.YtdcknfdileomoaaDoorAx
namespace Go.Proofs.YtdcknfdileomoaaDoor
open Go.RowKit

set_option maxHeartbeats 3200000 in
set_option maxRecDepth 100000 in
theorem law3_any (s : ByteArray) (z : Int) (w : World) (hT : Lib.Utf8Tabs 1 2 w) (hs : s.size ≤ 9223372036854775807) (hz : (Lit.int .i64 z).wf = true) :
    Calls Tryd.prog 5 #[.string s, .int .i64 z] w fun e w' => e = .returned (.bool true) ∧ Below w.heap.size w w' := by
  obtain ⟨hz0, hz1⟩ := bounds_i64 hz
  have C0 := Lib.hid (awake_any w hT)
  have c1 := fun W => field_any s z W hs
  have c2 := fun W => rField_any s z W hs
  have c3 := fun W => trim_any s W hs
  have c4 := fun W => rTrim_any s W hs
  generalize Cs.fieldR s.data.toList z = x at c1 c2
  generalize Cs.trimR s.data.toList = y at c3 c4
  have C1 := Lib.hid c1; have C2 := Lib.hid c2; have C3 := Lib.hid c3; have C4 := Lib.hid c4
  clear c1 c2 c3 c4 hT hz
  by_cases hg : 300 < s.size ∧ s.size ≤ 65536
  · obtain ⟨h1, h2⟩ := hg
    have h1' : (300 : Int) < (s.size : Int) := by omega
    have h2' : (s.size : Int) ≤ 65536 := by omega
    go_enter Tryd.func5, Tryd.ntmps5
    go_wp2_with fail
    with_reducible refine C0.out.mono ?_
    rintro e w1 ⟨rfl, hb1⟩
    go_wp2_with fail
    go_ret
    exact ⟨rfl, hb1⟩
  have hg' : ¬ (300 : Int) < (s.size : Int) ∨ (65536 : Int) < (s.size : Int) := by omega
  clear hg
  by_cases hk : 1000 < z ∧ z ≤ 65536
  · obtain ⟨k1, k2⟩ := hk
    rcases hg' with h | h
    all_goals try (have h' : (300 : Int) < (s.size : Int) := by omega)
    all_goals
      go_enter Tryd.func5, Tryd.ntmps5
      go_wp2_with fail
      with_reducible refine C0.out.mono ?_
      rintro e w1 ⟨rfl, hb1⟩
      go_wp2_with fail
      go_ret
      exact ⟨rfl, hb1⟩
  have hk' : ¬ 1000 < z ∨ 65536 < z := by omega
  clear hk
  rcases hg' with h | h
  all_goals try (have h' : (300 : Int) < (s.size : Int) := by omega)
  all_goals rcases hk' with k | k
  all_goals try (have k' : 1000 < z := by omega)
  all_goals
    go_enter Tryd.func5, Tryd.ntmps5
    go_wp2_with fail
    with_reducible refine C0.out.mono ?_
    rintro e w1 ⟨rfl, hb1⟩
    go_wp2_with fail
    with_reducible refine (C1.out _).mono ?_
    rintro e w2 ⟨rfl, hb2⟩
    have hc2 := hb1.trans (hb2.mono hb1.size)
    go_wp2_with fail
    with_reducible refine (C2.out _).mono ?_
    rintro e w3 ⟨rfl, hb3⟩
    have hc3 := hc2.trans (hb3.mono hc2.size)
    go_wp2_with fail
    with_reducible refine (C3.out _).mono ?_
    rintro e w4 ⟨rfl, rfl⟩
    go_wp2_with fail
    with_reducible refine (C4.out _).mono ?_
    rintro e w5 ⟨rfl, hb5⟩
    have hc5 := hc3.trans (hb5.mono hc3.size)
    go_wp2_with fail
    go_ret
    exact ⟨rfl, hc5⟩
end Go.Proofs.YtdcknfdileomoaaDoor

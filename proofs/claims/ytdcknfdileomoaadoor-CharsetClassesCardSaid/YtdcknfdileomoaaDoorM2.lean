/-
  The walk through the law CharsetClasses.
-/
import Derived.Test.YtdcknfdileomoaaDoorAx
import Derived.Test.YtdcknfdileomoaaDoorC2
namespace Go.Proofs.YtdcknfdileomoaaDoor
open Go.RowKit

set_option maxHeartbeats 1600000 in
set_option maxRecDepth 100000 in
theorem law2_any (s : ByteArray) (w : World) (hT : Lib.Utf8Tabs 1 2 w) (hs : s.size ≤ 9223372036854775807) :
    Calls Tryd.prog 4 #[.string s] w fun e w' => e = .returned (.bool true) ∧ Below w.heap.size w w' := by
  have C0 := Lib.hid (awake_any w hT)
  have c1 := fun W => dchars_any s W hs
  have c2 : ∀ W, Calls Tryd.prog 18 #[.string s] W fun e w' => e = .returned (.bool (Cs.dchR s.data.toList)) ∧ W = w' := fun W => rDchars_any s W hs
  have c3 := fun W => achars_any s W hs
  have c4 : ∀ W, Calls Tryd.prog 20 #[.string s] W fun e w' => e = .returned (.bool (Cs.achR s.data.toList)) ∧ W = w' := fun W => rAchars_any s W hs
  have c5 := fun W => upper_any s W hs
  have c6 := fun W => rUpper_any s W hs
  generalize Cs.dchR s.data.toList = x at c1 c2
  generalize Cs.achR s.data.toList = y at c3 c4
  generalize Cs.upperR s.data.toList = z at c5 c6
  have C1 := Lib.hid c1; have C2 := Lib.hid c2; have C3 := Lib.hid c3; have C4 := Lib.hid c4; have C5 := Lib.hid c5; have C6 := Lib.hid c6
  clear c1 c2 c3 c4 c5 c6 hT
  by_cases hg : 300 < s.size ∧ s.size ≤ 65536
  · obtain ⟨h1, h2⟩ := hg
    have h1' : (300 : Int) < (s.size : Int) := by omega
    have h2' : (s.size : Int) ≤ 65536 := by omega
    go_enter Tryd.func4, Tryd.ntmps4
    go_wp2_with fail
    with_reducible refine C0.out.mono ?_
    rintro e w1 ⟨rfl, hb1⟩
    go_wp2_with fail
    go_ret
    exact ⟨rfl, hb1⟩
  have hg' : ¬ (300 : Int) < (s.size : Int) ∨ (65536 : Int) < (s.size : Int) := by omega
  clear hg
  have hx : ∀ b : Bool, b = true ∨ b = false := by decide
  have HX := Lib.hid (hx x)
  have HY := Lib.hid (hx y)
  clear hx
  rcases hg' with h | h
  all_goals try (have h' : (300 : Int) < (s.size : Int) := by omega)
  all_goals
    go_enter Tryd.func4, Tryd.ntmps4
    go_wp2_with fail
    with_reducible refine C0.out.mono ?_
    rintro e w1 ⟨rfl, hb1⟩
    go_wp2_with fail
    with_reducible refine (C1.out _).mono ?_
    rintro e w2 ⟨rfl, hb2⟩
    have hc2 := hb1.trans (hb2.mono hb1.size)
    go_wp2_with fail
    with_reducible refine (C2.out _).mono ?_
    rintro e w3 ⟨rfl, rfl⟩
    go_wp2_with fail
    with_reducible refine (C3.out _).mono ?_
    rintro e w4 ⟨rfl, hb4⟩
    have hc4 := hc2.trans (hb4.mono hc2.size)
    go_wp2_with fail
    with_reducible refine (C4.out _).mono ?_
    rintro e w5 ⟨rfl, rfl⟩
    go_wp2_with fail
    with_reducible refine (C5.out _).mono ?_
    rintro e w6 ⟨rfl, hb6⟩
    have hc6 := hc4.trans (hb6.mono hc4.size)
    go_wp2_with fail
    with_reducible refine (C6.out _).mono ?_
    rintro e w7 ⟨rfl, hb7⟩
    have hc7 := hc6.trans (hb7.mono hc6.size)
    go_wp2_with fail
    go_ret
    exact ⟨rfl, hc7⟩
end Go.Proofs.YtdcknfdileomoaaDoor

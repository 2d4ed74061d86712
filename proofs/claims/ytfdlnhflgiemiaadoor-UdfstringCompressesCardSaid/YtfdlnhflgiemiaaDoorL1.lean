/-
  The walk through the law UdfstringCompresses.
-/
import Derived.Test.YtfdlnhflgiemiaaDoorAw
namespace Go.Proofs.YtfdlnhflgiemiaaDoor
open Go.RowKit

set_option maxHeartbeats 1600000 in
set_option maxRecDepth 100000 in
theorem law1_any (s d : ByteArray) (w : World) (hT : Lib.Utf8Tabs 0 1 w) (hs : s.size ≤ 9223372036854775807) (hd : d.size ≤ 9223372036854775807) :
    Calls Tryd.prog 3 #[.string s, .string d] w fun e w' => e = .returned (.bool true) ∧ Below w.heap.size w w' := by
  have C0 := Lib.hid (awake_any w hT)
  have C1 := Lib.hid (fun W h => compress_any s W h hs)
  have C2 := Lib.hid (fun W => rCompress_any s W hs)
  have C3 := Lib.hid (fun W => expand_any d W hd)
  have C4 := Lib.hid (fun W => vExpand_any d W hd)
  have HT := Lib.hid hT
  clear hT
  by_cases h1 : s.size ≤ 300
  case neg =>
    have h1' : (300 : Int) < (s.size : Int) := by omega
    go_enter Tryd.func3, Tryd.ntmps3
    go_wp2_with fail
    with_reducible refine C0.out.mono ?_
    rintro e w1 ⟨rfl, hb1⟩
    go_wp2_with fail
    go_ret
    exact ⟨rfl, hb1⟩
  by_cases h2 : d.size ≤ 300
  case neg =>
    have h2' : (300 : Int) < (d.size : Int) := by omega
    go_enter Tryd.func3, Tryd.ntmps3
    go_wp2_with fail
    with_reducible refine C0.out.mono ?_
    rintro e w1 ⟨rfl, hb1⟩
    go_wp2_with fail
    go_ret
    exact ⟨rfl, hb1⟩
  have h1' : ¬ (300 : Int) < (s.size : Int) := by omega
  have h2' : ¬ (300 : Int) < (d.size : Int) := by omega
  generalize Cs.compressR s.data.toList = r at C1 C2
  generalize Cs.expandR d.data.toList = q at C3 C4
  go_enter Tryd.func3, Tryd.ntmps3
  go_wp2_with fail
  with_reducible refine C0.out.mono ?_
  rintro e w1 ⟨rfl, hb1⟩
  go_wp2_with fail
  with_reducible refine (C1.out _ (Kit.tabs_below HT.out hb1)).mono ?_
  rintro e w2 ⟨rfl, hb2⟩
  have hc2 := hb1.trans (hb2.mono hb1.size)
  go_wp2_with fail
  with_reducible refine (C2.out _).mono ?_
  rintro e w3 ⟨rfl, hb3⟩
  have hc3 := hc2.trans (hb3.mono hc2.size)
  go_wp2_with fail
  with_reducible refine (C3.out _).mono ?_
  rintro e w4 ⟨rfl, hb4⟩
  have hc4 := hc3.trans (hb4.mono hc3.size)
  go_wp2_with fail
  with_reducible refine (C4.out _).mono ?_
  rintro e w5 ⟨rfl, hb5⟩
  have hc5 := hc4.trans (hb5.mono hc4.size)
  go_wp2_with fail
  go_ret
  exact ⟨rfl, hc5⟩
end Go.Proofs.YtfdlnhflgiemiaaDoor

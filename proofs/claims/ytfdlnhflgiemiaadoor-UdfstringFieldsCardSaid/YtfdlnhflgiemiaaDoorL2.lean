/-
  The walk through the law UdfstringFields.
-/
import Derived.Test.YtfdlnhflgiemiaaDoorAw
namespace Go.Proofs.YtfdlnhflgiemiaaDoor
open Go.RowKit

set_option maxHeartbeats 1600000 in
set_option maxRecDepth 100000 in
theorem law2_any (s : ByteArray) (z : Int) (d : ByteArray) (w : World) (hT : Lib.Utf8Tabs 0 1 w) (hs : s.size ≤ 9223372036854775807) (_hz : (Lit.int .i64 z).wf = true) (hd : d.size ≤ 9223372036854775807) :
    Calls Tryd.prog 4 #[.string s, .int .i64 z, .string d] w fun e w' => e = .returned (.bool true) ∧ Below w.heap.size w w' := by
  have C0 := Lib.hid (awake_any w hT)
  have C1 := Lib.hid (fun W h => dstring_any s z W h hs)
  have C2 := Lib.hid (fun W => vDstring_any s z W hs)
  have C3 := Lib.hid (fun W => parse_any d W hd)
  have C4 := Lib.hid (fun W => vParse_any d W hd)
  have C5 := Lib.hid (fun W h => fit_any s z W h hs)
  have C6 := Lib.hid (fun W => vFit_any s z W hs)
  have HT := Lib.hid hT
  clear hT
  by_cases h1 : s.size ≤ 300
  case neg =>
    have h1' : (300 : Int) < (s.size : Int) := by omega
    go_enter Tryd.func4, Tryd.ntmps4
    go_wp2_with fail
    with_reducible refine C0.out.mono ?_
    rintro e w1 ⟨rfl, hb1⟩
    go_wp2_with fail
    go_ret
    exact ⟨rfl, hb1⟩
  by_cases h2 : d.size ≤ 300
  case neg =>
    have h2' : (300 : Int) < (d.size : Int) := by omega
    go_enter Tryd.func4, Tryd.ntmps4
    go_wp2_with fail
    with_reducible refine C0.out.mono ?_
    rintro e w1 ⟨rfl, hb1⟩
    go_wp2_with fail
    go_ret
    exact ⟨rfl, hb1⟩
  have h1' : ¬ (300 : Int) < (s.size : Int) := by omega
  have h2' : ¬ (300 : Int) < (d.size : Int) := by omega
  generalize Cs.dstrR s.data.toList z = r at C1 C2
  generalize Cs.parseR d.data.toList = q at C3 C4
  generalize Cs.fitR s.data.toList z = u at C5 C6
  go_enter Tryd.func4, Tryd.ntmps4
  go_wp2_with fail
  with_reducible refine C0.out.mono ?_
  rintro e w1 ⟨rfl, hb1⟩
  go_wp2_with fail
  with_reducible refine (C1.out _ (Kit.tabs_below HT.out hb1)).mono ?_
  rintro e w2 ⟨rfl, hb2⟩
  have hc2 := hb1.trans (hb2.mono hb1.size)
  go_wp2_with fail
  with_reducible refine (C2.out _).mono ?_
  rintro e w3 ⟨rfl, hb3⟩
  have hc3 := hc2.trans (hb3.mono hc2.size)
  go_wp2_with fail
  with_reducible refine (C3.out _).mono ?_
  rintro e w4 ⟨rfl, hb4⟩
  have hc4 := hc3.trans (hb4.mono hc3.size)
  go_wp2_with fail
  with_reducible refine (C4.out _).mono ?_
  rintro e w5 ⟨rfl, hb5⟩
  have hc5 := hc4.trans (hb5.mono hc4.size)
  clear hb1 hb2 hb3 hb4 hb5 hc2 hc3 hc4
  go_wp2_with fail
  with_reducible refine (C5.out _ (Kit.tabs_below HT.out hc5)).mono ?_
  rintro e w6 ⟨rfl, hb6⟩
  have hc6 := hc5.trans (hb6.mono hc5.size)
  go_wp2_with fail
  with_reducible refine (C6.out _).mono ?_
  rintro e w7 ⟨rfl, hb7⟩
  have hc7 := hc6.trans (hb7.mono hc6.size)
  go_wp2_with fail
  go_ret
  exact ⟨rfl, hc7⟩
end Go.Proofs.YtfdlnhflgiemiaaDoor

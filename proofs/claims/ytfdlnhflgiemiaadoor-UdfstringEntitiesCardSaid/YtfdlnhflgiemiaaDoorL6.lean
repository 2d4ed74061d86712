/-
  The walk through the law UdfstringEntities.
-/
import Derived.Test.YtfdlnhflgiemiaaDoorN4Y
namespace Go.Proofs.YtfdlnhflgiemiaaDoor
open Go.RowKit

set_option maxHeartbeats 3200000 in
set_option maxRecDepth 100000 in
theorem law6_any (i s f : ByteArray) (w : World) (hT : Lib.Utf8Tabs 0 1 w) (hi : i.size ≤ 9223372036854775807) (hs : s.size ≤ 9223372036854775807) (hf : f.size ≤ 9223372036854775807) (hMM : ∃ m : Int, w.cell? ⟨2, 0, none⟩ = some (.int .i64 m)) :
    Calls Tryd.prog 8 #[.string i, .string s, .string f] w fun e w' => e = .returned (.bool true) ∧ Below w.heap.size w w' := by
  obtain ⟨m, hM⟩ := hMM
  have hlt : 2 < w.heap.size := World.block_lt_of_cell? _ _ hM
  have HM := Lib.hid hM
  have HLT := Lib.hid hlt
  have C0 := Lib.hid (awake_any w hT)
  have c1 := fun W => entity_any i s W hi hs
  have c2 := fun W => rEntity_any i s W hi hs
  have c3 := fun W h => pent_any f W m h hf
  have c4 := fun W => rPent_any f W hf
  have c5 := fun W => charspec_any W
  have c6 := fun W => rCharspec_any W
  generalize Cs.entR i.data.toList s.data.toList = x1 at c1 c2
  generalize Cs.pentR f.data.toList = x2 at c3 c4
  generalize charspecL = x3 at c5 c6
  have C1 := Lib.hid c1; have C2 := Lib.hid c2; have C3 := Lib.hid c3; have C4 := Lib.hid c4; have C5 := Lib.hid c5; have C6 := Lib.hid c6
  clear c1 c2 c3 c4 c5 c6 hT hM hlt
  by_cases g1 : (60 : Int) < (i.size : Int)
  · skip
    go_enter Tryd.func8, Tryd.ntmps8
    go_wp2_with fail
    with_reducible refine C0.out.mono ?_
    rintro e w1 ⟨rfl, hb1⟩
    go_wp2_with fail
    go_ret
    exact ⟨rfl, hb1⟩
  by_cases g2 : (60 : Int) < (s.size : Int)
  · skip
    go_enter Tryd.func8, Tryd.ntmps8
    go_wp2_with fail
    with_reducible refine C0.out.mono ?_
    rintro e w1 ⟨rfl, hb1⟩
    go_wp2_with fail
    go_ret
    exact ⟨rfl, hb1⟩
  by_cases g3 : (60 : Int) < (f.size : Int)
  · skip
    go_enter Tryd.func8, Tryd.ntmps8
    go_wp2_with fail
    with_reducible refine C0.out.mono ?_
    rintro e w1 ⟨rfl, hb1⟩
    go_wp2_with fail
    go_ret
    exact ⟨rfl, hb1⟩
  go_enter Tryd.func8, Tryd.ntmps8
  go_wp2_with fail
  with_reducible refine C0.out.mono ?_
  rintro e w1 ⟨rfl, hb1⟩
  go_wp2_with fail
  with_reducible refine (C1.out _).mono ?_
  rintro e w2 ⟨rfl, hb2⟩
  have hc2 := hb1.trans (hb2.mono hb1.size)
  go_wp2_with fail
  with_reducible refine (C2.out _).mono ?_
  rintro e w3 ⟨rfl, hb3⟩
  have hc3 := hc2.trans (hb3.mono hc2.size)
  go_wp2_with fail
  with_reducible refine (C3.out _ (((hc3.cell (p := ⟨2, 0, none⟩) HLT.out)).trans HM.out)).mono ?_
  rintro e w4 ⟨rfl, hb4⟩
  have hc4 := hc3.trans (hb4.mono hc3.size)
  go_wp2_with fail
  with_reducible refine (C4.out _).mono ?_
  rintro e w5 ⟨rfl, hb5⟩
  have hc5 := hc4.trans (hb5.mono hc4.size)
  go_wp2_with fail
  with_reducible refine (C5.out _).mono ?_
  rintro e w6 ⟨rfl, hb6⟩
  have hc6 := hc5.trans (hb6.mono hc5.size)
  go_wp2_with fail
  with_reducible refine (C6.out _).mono ?_
  rintro e w7 ⟨rfl, hb7⟩
  have hc7 := hc6.trans (hb7.mono hc6.size)
  go_wp2_with fail
  go_ret
  exact ⟨rfl, hc7⟩
end Go.Proofs.YtfdlnhflgiemiaaDoor

/-
  The walk through the law UdfstringNames.
-/
import Derived.Test.YtfdlnhflgiemiaaDoorN5
namespace Go.Proofs.YtfdlnhflgiemiaaDoor
open Go.RowKit

set_option maxHeartbeats 6400000 in
set_option maxRecDepth 100000 in
theorem law7_any (i s f : ByteArray) (w : World) (hT : Lib.Utf8Tabs 0 1 w) (_hi : i.size ≤ 9223372036854775807) (_hs : s.size ≤ 9223372036854775807) (_hf : f.size ≤ 9223372036854775807) (hMM : ∃ m : Int, w.cell? ⟨2, 0, none⟩ = some (.int .i64 m)) :
    Calls Tryd.prog 9 #[.string i, .string s, .string f] w fun e w' => e = .returned (.bool true) ∧ Below w.heap.size w w' := by
  obtain ⟨m, hM⟩ := hMM
  have hlt : 2 < w.heap.size := World.block_lt_of_cell? _ _ hM
  have HM := Lib.hid hM
  have HLT := Lib.hid hlt
  have C0 := Lib.hid (awake_any w hT)
  clear hT hM hlt
  by_cases g1 : (60 : Int) < (i.size : Int)
  · skip
    go_enter Tryd.func9, Tryd.ntmps9
    go_wp2_with fail
    with_reducible refine C0.out.mono ?_
    rintro e w1 ⟨rfl, hb1⟩
    go_wp2_with fail
    go_ret
    exact ⟨rfl, hb1⟩
  by_cases g2 : (60 : Int) < (s.size : Int)
  · skip
    go_enter Tryd.func9, Tryd.ntmps9
    go_wp2_with fail
    with_reducible refine C0.out.mono ?_
    rintro e w1 ⟨rfl, hb1⟩
    go_wp2_with fail
    go_ret
    exact ⟨rfl, hb1⟩
  by_cases g3 : (60 : Int) < (f.size : Int)
  · skip
    go_enter Tryd.func9, Tryd.ntmps9
    go_wp2_with fail
    with_reducible refine C0.out.mono ?_
    rintro e w1 ⟨rfl, hb1⟩
    go_wp2_with fail
    go_ret
    exact ⟨rfl, hb1⟩
  have hX := ways_one i s (by omega) (by omega)
  have hY := ways_two f (by omega)
  rcases hX with c1 | ⟨E, b, y, hE, hb, c1, c2, c3, c4, c5⟩
  · have C1 := Lib.hid c1
    clear c1
    rcases hY with ⟨er, her, d1⟩ | ⟨a, b2, E2, hE2, hf1, heq, d1, d2⟩
    · have D1 := Lib.hid d1
      have her' : (er != 0) = true := by rw [bne_iff_ne]; exact her
      clear d1 her
      go_enter Tryd.func9, Tryd.ntmps9
      go_wp2_with fail
      with_reducible refine C0.out.mono ?_
      rintro e w1 ⟨rfl, hb1⟩
      go_wp2_with fail
      with_reducible refine (C1.out _).mono ?_
      rintro e w2 ⟨rfl, hb2⟩
      have hc2 := hb1.trans (hb2.mono hb1.size)
      go_wp2_with fail
      with_reducible refine (D1.out _ _ ((hc2.cell (p := ⟨2, 0, none⟩) HLT.out).trans HM.out)).mono ?_
      rintro e w6 ⟨rfl, hb6⟩
      have hc6 := hc2.trans (hb6.mono hc2.size)
      go_wp2_with fail
      go_ret
      exact ⟨rfl, hc6⟩
    · have D1 := Lib.hid d1; have D2 := Lib.hid d2
      have hf1' : (1 : Int) ≤ (f.size : Int) := by omega
      clear d1 d2
      go_enter Tryd.func9, Tryd.ntmps9
      go_wp2_with fail
      with_reducible refine C0.out.mono ?_
      rintro e w1 ⟨rfl, hb1⟩
      go_wp2_with fail
      with_reducible refine (C1.out _).mono ?_
      rintro e w2 ⟨rfl, hb2⟩
      have hc2 := hb1.trans (hb2.mono hb1.size)
      go_wp2_with fail
      with_reducible refine (D1.out _ _ ((hc2.cell (p := ⟨2, 0, none⟩) HLT.out).trans HM.out)).mono ?_
      rintro e w6 ⟨rfl, hb6⟩
      have hc6 := hc2.trans (hb6.mono hc2.size)
      go_wp2_with fail
      with_reducible refine (D2.out _).mono ?_
      rintro e w7 ⟨rfl, hb7⟩
      have hc7 := hc6.trans (hb7.mono hc6.size)
      go_wp2_with fail
      go_quiet (fail)
      have hc8 := Kit.Below.drewN hc7 nq
      go_wp2_with fail
      go_ret
      exact ⟨rfl, hc8⟩
  · have C1 := Lib.hid c1; have C2 := Lib.hid c2; have C3 := Lib.hid c3; have C4 := Lib.hid c4; have C5 := Lib.hid c5
    clear c1 c2 c3 c4 c5
    rcases hY with ⟨er, her, d1⟩ | ⟨a, b2, E2, hE2, hf1, heq, d1, d2⟩
    · have D1 := Lib.hid d1
      have her' : (er != 0) = true := by rw [bne_iff_ne]; exact her
      clear d1 her
      go_enter Tryd.func9, Tryd.ntmps9
      go_wp2_with fail
      with_reducible refine C0.out.mono ?_
      rintro e w1 ⟨rfl, hb1⟩
      go_wp2_with fail
      with_reducible refine (C1.out _).mono ?_
      rintro e w2 ⟨rfl, hb2⟩
      have hc2 := hb1.trans (hb2.mono hb1.size)
      go_wp2_with fail
      with_reducible refine (C2.out _ _ ((hc2.cell (p := ⟨2, 0, none⟩) HLT.out).trans HM.out)).mono ?_
      rintro e w3 ⟨rfl, hb3⟩
      have hc3 := hc2.trans (hb3.mono hc2.size)
      go_wp2_with fail
      with_reducible refine (C3.out _).mono ?_
      rintro e w20 ⟨rfl, rfl⟩
      go_wp2_with fail
      with_reducible refine (C4.out _).mono ?_
      rintro e w21 ⟨rfl, rfl⟩
      go_wp2_with fail
      with_reducible refine (C5.out _).mono ?_
      rintro e w22 ⟨rfl, rfl⟩
      go_wp2_with fail
      with_reducible refine (D1.out _ _ ((hc3.cell (p := ⟨2, 0, none⟩) HLT.out).trans HM.out)).mono ?_
      rintro e w6 ⟨rfl, hb6⟩
      have hc6 := hc3.trans (hb6.mono hc3.size)
      go_wp2_with fail
      go_ret
      exact ⟨rfl, hc6⟩
    · have D1 := Lib.hid d1; have D2 := Lib.hid d2
      have hf1' : (1 : Int) ≤ (f.size : Int) := by omega
      clear d1 d2
      go_enter Tryd.func9, Tryd.ntmps9
      go_wp2_with fail
      with_reducible refine C0.out.mono ?_
      rintro e w1 ⟨rfl, hb1⟩
      go_wp2_with fail
      with_reducible refine (C1.out _).mono ?_
      rintro e w2 ⟨rfl, hb2⟩
      have hc2 := hb1.trans (hb2.mono hb1.size)
      go_wp2_with fail
      with_reducible refine (C2.out _ _ ((hc2.cell (p := ⟨2, 0, none⟩) HLT.out).trans HM.out)).mono ?_
      rintro e w3 ⟨rfl, hb3⟩
      have hc3 := hc2.trans (hb3.mono hc2.size)
      go_wp2_with fail
      with_reducible refine (C3.out _).mono ?_
      rintro e w20 ⟨rfl, rfl⟩
      go_wp2_with fail
      with_reducible refine (C4.out _).mono ?_
      rintro e w21 ⟨rfl, rfl⟩
      go_wp2_with fail
      with_reducible refine (C5.out _).mono ?_
      rintro e w22 ⟨rfl, rfl⟩
      go_wp2_with fail
      with_reducible refine (D1.out _ _ ((hc3.cell (p := ⟨2, 0, none⟩) HLT.out).trans HM.out)).mono ?_
      rintro e w6 ⟨rfl, hb6⟩
      have hc6 := hc3.trans (hb6.mono hc3.size)
      go_wp2_with fail
      with_reducible refine (D2.out _).mono ?_
      rintro e w7 ⟨rfl, hb7⟩
      have hc7 := hc6.trans (hb7.mono hc6.size)
      go_wp2_with fail
      go_quiet (fail)
      have hc8 := Kit.Below.drewN hc7 nq
      go_wp2_with fail
      go_ret
      exact ⟨rfl, hc8⟩
end Go.Proofs.YtfdlnhflgiemiaaDoor

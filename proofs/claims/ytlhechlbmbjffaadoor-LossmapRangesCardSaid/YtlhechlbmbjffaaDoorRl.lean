/-
  The walk through LossmapRanges.
-/
import Derived.Deep.QuietTactic
import Derived.BigQuiet
import Derived.Test.YtlhechlbmbjffaaDoorKb
import Derived.Test.YtlhechlbmbjffaaDoorKg
import Derived.Test.YtlhechlbmbjffaaDoorJn
import Derived.Test.YtlhechlbmbjffaaDoorRn
import Derived.Test.YtlhechlbmbjffaaDoorRo
namespace Go.Proofs.YtlhechlbmbjffaaDoor
open Go.RowKit

set_option maxHeartbeats 12800000 in
set_option maxRecDepth 100000 in
/-- LossmapRanges. -/
theorem lawR_any (v u : Value) (img : List ByteArray) (fs : List Lm.F) (path : ByteArray) (w : World) (hm : Lm.Strs w v img) (hf : Lm.Files w u fs) (hp : Lm.Pow w) :
    Calls Tryd.prog 3 #[v, u, .string path] w fun e w' => e = .returned (.bool true) ∧ Below w.heap.size w w' := by
  have CA := Lib.hid (awake_any w hp)
  have HM := Lib.hid hm
  have HF := Lib.hid hf
  obtain ⟨A, c, rfl, hlc, hcm⟩ := Lm.Strs.shape hm
  obtain ⟨B, d, rfl, hld, hdm, _⟩ := hf
  unfold maxLen at hcm hdm
  clear hm hp
  go_enter Tryd.func3, Tryd.ntmps3
  go_wp2_with fail
  with_reducible refine CA.out.mono ?_
  rintro e w1 ⟨rfl, hb1⟩
  have CF := Lib.hid (few_any _ _ img fs w1 (HM.out.below hb1) (HF.out.below hb1))
  go_wp2_with fail
  with_reducible refine CF.out.mono ?_
  rintro e w2 ⟨bb, rfl, hsm, hb2⟩
  have HB2 := Lib.hid (hb1.trans (hb2.mono hb1.size))
  clear hb1 hb2 CA CF
  cases bb with
  | false =>
    go_wp2_with fail
    go_ret
    exact ⟨rfl, HB2.out⟩
  | true =>
  have HPS := Lib.hid (fun j hj => ((hsm rfl).each j hj).1)
  clear hsm
  have CL := Lib.hid (fun W (h : Below w.heap.size w W) => lost_any _ _ img fs W (HM.out.below h) (HF.out.below h) HPS.out)
  have CM := Lib.hid (fun W (h : Below w.heap.size w W) => rLost_any _ _ img fs W (HM.out.below h) (HF.out.below h) HPS.out)
  have CV := Lib.hid (fun W (h : Below w.heap.size w W) => recover_any _ _ img fs path W (HM.out.below h) (HF.out.below h) HPS.out)
  have CW := Lib.hid (fun W (h : Below w.heap.size w W) => rRecover_any _ _ img fs path W (HM.out.below h) (HF.out.below h) HPS.out)
  generalize (if Lm.chkR img fs = 0 then Lm.lostR img fs else []) = L at *
  generalize Lm.chkR img fs = e0 at *
  generalize (⟨(if Lm.recE img fs path = 0 then Lm.recR img fs path else []).toArray⟩ : ByteArray) = s at *
  generalize Lm.recE img fs path = f0 at *
  go_wp2_with fail
  with_reducible refine (CL.out _ HB2.out).mono ?_
  rintro e w3 ⟨r1, rfl, hO3, hb3⟩
  have HB3 := Lib.hid (HB2.out.trans (hb3.mono HB2.out.size))
  have HO3 := Lib.hid (Lm.OwnL.row hO3)
  clear hO3 hb3
  go_wp2_with fail
  with_reducible refine (CM.out _ HB3.out).mono ?_
  rintro e w4 ⟨r2, rfl, hO4, hb4⟩
  have HB4 := Lib.hid (HB3.out.trans (hb4.mono HB3.out.size))
  have HO34 := Lib.hid (HO3.out.below hb4)
  have HO4 := Lib.hid (Lm.OwnL.row hO4)
  clear hO4 hb4
  go_wp2_with fail
  with_reducible refine (CV.out _ HB4.out).mono ?_
  rintro e w5 ⟨rfl, hb5⟩
  have HB5 := Lib.hid (HB4.out.trans (hb5.mono HB4.out.size))
  have HO35 := Lib.hid (HO34.out.below hb5)
  have HO45 := Lib.hid (HO4.out.below hb5)
  clear hb5
  go_wp2_with fail
  with_reducible refine (CW.out _ HB5.out).mono ?_
  rintro e w6 ⟨rfl, hb6⟩
  have HB6 := Lib.hid (HB5.out.trans (hb6.mono HB5.out.size))
  have CE := Lib.hid (equalL_same r1 r2 L w6 (HO35.out.below hb6) (HO45.out.below hb6))
  clear hb6
  go_wp2_with fail
  with_reducible refine CE.out.mono ?_
  rintro e w7 ⟨rfl, hb7⟩
  go_wp2_with fail
  go_ret
  first
    | exact ⟨rfl, HB6.out.trans (hb7.mono HB6.out.size)⟩
    | exact ⟨by simp, HB6.out.trans (hb7.mono HB6.out.size)⟩
/-- As the card wants it. -/
theorem lawR1_any (v : Value) (img : List ByteArray) (u : Value) (fs : List Lm.F) (path : ByteArray) (w : World) (hm : Kit.RowS w v (Lm.strs img)) (hf : Lm.Files w u fs) (_hs : path.size ≤ maxLen) (hp : Lm.Pow w) :
    Calls Tryd.prog 3 #[v, u, .string path] w fun e w' => e = .returned (.bool true) ∧ Below w.heap.size w w' := lawR_any v u img fs path w hm.1 hf hp
end Go.Proofs.YtlhechlbmbjffaaDoor

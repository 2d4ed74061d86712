/-
  The walks through the reference's Words, words, readWords and Ints.
-/
import Derived.Test.YthkppbimkjmbnaaGreatDoorXa
import Derived.Test.YthkppbimkjmbnaaGreatDoorZk
import Derived.Test.YthkppbimkjmbnaaGreatDoorZn
import Derived.Test.YthkppbimkjmbnaaGreatDoorZO
import Derived.Test.YthkppbimkjmbnaaGreatDoorXc
namespace Go.Proofs.YthkppbimkjmbnaaGreatDoor
set_option linter.unusedVariables false
open Go.RowKit
open Vs (bs by_)
namespace Vs
theorem all_bad (l : List Int) : l.all word = !badW l := by
  unfold badW
  rw [List.all_eq_not_any_not]
theorem w4_take (l : List Int) {k : Nat} (h : k < l.length) : w4 (l.take k) ++ n4 (l.getD k 0) = w4 (l.take (k + 1)) := by
  rw [← w4_snoc, List.take_add_one, List.getD_eq_getElem?_getD, List.getElem?_eq_getElem h]
  rfl
end Vs

set_option maxHeartbeats 1600000 in
set_option maxRecDepth 100000 in
/-- masterdiscref36.Words. -/
theorem r36Words_any (v : Value) (zs : List Int) (w : World) (hr : Kit.Row w v (Kit.izs zs)) :
    Calls Tryz.prog 171 #[v] w fun e w' => e = .returned (.bool (zs.all Vs.word)) ∧ w = w' := by
  have HAB := Lib.hid (Vs.all_bad zs)
  have HRow := Lib.hid hr
  obtain ⟨A, c, rfl, hlc, hcm, _⟩ := hr
  rw [Kit.izs_length] at *
  unfold maxLen at hcm
  go_enter Tryz.func171, Tryz.ntmps171
  go_wp2_with fail
  go_loop [3] (fun iv => ∃ j : Nat, j ≤ zs.length ∧ iv = .int .i64 j ∧ Hid ((zs.take j).any (fun n => !Vs.word n) = false)) (fun iv => zs.length - (intOf iv).toNat)
  case atStart => exact ⟨0, by omega, rfl, Lib.hid rfl⟩
  case round =>
    obtain ⟨j, hj, rfl, HA⟩ := hrel
    by_cases hlt : j < zs.length
    · obtain ⟨b, o, c', hv, hbw, hcj⟩ := HRow.out.at_izs hlt
      obtain ⟨rfl, _, rfl⟩ : A = some ⟨b, o, none⟩ ∧ zs.length = zs.length ∧ c = c' := by simpa using hv
      clear hv
      have CP := Lib.hid (fun W => r36Word_any (zs.getD j 0) W)
      cases hp : Vs.word (zs.getD j 0) with
      | true =>
        have HN := Lib.hid (any_snocF (p := fun n => !Vs.word n) hlt HA.out (by simpa [hp] using hp))
        rw [hp] at CP
        clear hp
        generalize zs.getD j 0 = x at *
        go_wp2_with (with_reducible refine (CP.out _).mono ?_; rintro e w2 ⟨rfl, hw⟩; subst hw)
        go_round
        case rel => exact ⟨j + 1, by omega, by go_num, HN⟩
        case measure => simp [intOf]; omega
      | false =>
        have HN := Lib.hid (show Vs.badW zs = true from any_hit (p := fun n => !Vs.word n) hlt (by simpa [hp] using hp))
        rw [hp] at CP
        clear hp
        generalize zs.getD j 0 = x at *
        go_wp2_with (with_reducible refine (CP.out _).mono ?_; rintro e w2 ⟨rfl, hw⟩; subst hw)
        go_ret
        exact ⟨by rw [HAB.out, HN.out]; rfl, rfl⟩
    · obtain rfl : j = zs.length := by omega
      have ha := HA.out
      rw [List.take_length] at ha
      have HH := Lib.hid (show Vs.badW zs = false from ha)
      clear ha
      go_wp2_with fail
      go_ret
      exact ⟨by rw [HAB.out, HH.out]; rfl, rfl⟩

set_option maxHeartbeats 1600000 in
set_option maxRecDepth 100000 in
/-- masterdiscref36.words. -/
theorem r36wordsL_any (v : Value) (zs : List Int) (w : World) (hr : Kit.Row w v (Kit.izs zs)) (hz : ∀ x ∈ zs, Vs.word x = true) (hl : zs.length ≤ 1000) :
    Calls Tryz.prog 113 #[v] w fun e w' => e = .returned (.string (bs (Vs.w4 zs))) ∧ Below w.heap.size w w' := by
  have HRow := Lib.hid hr
  have HZ := Lib.hid (fun x h => (Vs.word_iff x).1 (hz x h))
  have HT := Lib.hid (fun k (h : k < zs.length) => Vs.w4_take zs h)
  have HS := Lib.hid (fun k => show (bs (Vs.w4 (zs.take k))).size ≤ 4000 by rw [Vs.bs_size, Vs.w4_len, List.length_take]; omega)
  obtain ⟨A, c, rfl, hlc, hcm, _⟩ := hr
  rw [Kit.izs_length] at *
  unfold maxLen at hcm
  clear hz
  go_enter Tryz.func113, Tryz.ntmps113
  go_wp2_with fail
  go_loopw [3, 4] (fun sv iv wr => ∃ j : Nat, j ≤ zs.length ∧ sv = .string (bs (Vs.w4 (zs.take j))) ∧ iv = .int .i64 j ∧ Hid (Below w.heap.size w wr)) (fun _ iv _ => zs.length - (intOf iv).toNat)
  case atStart => exact ⟨0, by omega, rfl, rfl, Lib.hid (Below.refl _ _)⟩
  case round =>
    obtain ⟨j, hj, rfl, rfl, HB⟩ := hrel
    by_cases hlt : j < zs.length
    · obtain ⟨b, o, c', hv, hbw, hcj0⟩ := HRow.out.at_izs hlt
      obtain ⟨rfl, _, rfl⟩ : A = some ⟨b, o, none⟩ ∧ zs.length = zs.length ∧ c = c' := by simpa using hv
      have hcj := (HB.out.cell (p := ⟨b, o + j, none⟩) hbw).trans hcj0
      have hxm : zs.getD j 0 ∈ zs := by rw [List.getD_eq_getElem?_getD, List.getElem?_eq_getElem hlt]; exact List.getElem_mem hlt
      obtain ⟨hx0, hx1⟩ := HZ.out _ hxm
      have CX := Lib.hid (fun W => show Calls Tryz.prog 80 #[.int .i64 (zs.getD j 0), .int .i64 4] W fun e w' => e = .returned (.string (bs (Vs.n4 (zs.getD j 0)))) ∧ Below W.heap.size W w' from r01_any (zs.getD j 0).toNat 4 (zs.getD j 0) 4 (by omega) rfl (by omega) (by omega) W)
      have HN := Lib.hid (show bs (Vs.w4 (zs.take j)) ++ bs (Vs.n4 (zs.getD j 0)) = bs (Vs.w4 (zs.take (j + 1))) by rw [Vs.bs_app, HT.out j hlt])
      have z1 := HS.out j
      have z2 : (bs (Vs.n4 (zs.getD j 0))).size ≤ 4 := by rw [Vs.bs_size, Vs.n4_len]; decide
      clear hv hbw hcj0 hxm hx0 hx1
      generalize bs (Vs.w4 (zs.take j)) = acc at *
      generalize bs (Vs.n4 (zs.getD j 0)) = r4 at *
      generalize zs.getD j 0 = x at *
      go_wp2_with fail
      with_reducible refine (CX.out _).mono ?_
      rintro e w2 ⟨rfl, hb2⟩
      have HB2 := Lib.hid (HB.out.trans (hb2.mono HB.out.size))
      clear hb2 hcj
      go_wp2_with fail
      go_roundw
      case rel => exact ⟨j + 1, by omega, by rw [HN.out], by go_num, HB2⟩
      case measure => simp [intOf]; omega
    · obtain rfl : j = zs.length := by omega
      go_wp2_with fail
      go_ret
      exact ⟨by first | rfl | (simp only [List.take_length]; rfl), HB.out⟩

set_option maxHeartbeats 1600000 in
set_option maxRecDepth 100000 in
/-- masterdiscref36.readWords. -/
theorem r36readWords_any (s : ByteArray) (a n : Nat) (Av Nv : Int) (hA : Av = (a : Int)) (hN : Nv = (n : Int)) (ha : a + 4 * n ≤ s.size) (hs : s.size ≤ 1000000) (w : World) :
    Calls Tryz.prog 115 #[.string s, .int .i64 Av, .int .i64 Nv] w fun e w' => ∃ v', e = .returned v' ∧ w'.ownsRow w.heap.size 3 1 v' ((List.range n).map (fun k => ((Pm.at_ (by_ s) (a + 4 * k) 4 : Nat) : Int))).length (Kit.izs ((List.range n).map (fun k => ((Pm.at_ (by_ s) (a + 4 * k) 4 : Nat) : Int)))) ∧ Below w.heap.size w w' := by
  subst hA hN
  obtain ⟨f, hf⟩ : ∃ f : Nat → Int, ∀ k, f k = ((Pm.at_ (by_ s) (a + 4 * k) 4 : Nat) : Int) := ⟨_, fun _ => rfl⟩
  have CX := Lib.hid (fun (k : Nat) (hk : k < n) W => show Calls Tryz.prog 87 #[.string s, .int .i64 ((a : Int) + 4 * (k : Int)), .int .i64 4] W fun e w' => e = .returned (.int .i64 (f k)) ∧ W = w' from by rw [hf]; exact r31N_any s (a + 4 * k) 4 ((a : Int) + 4 * (k : Int)) 4 (by omega) rfl (by omega) (by omega) (by omega) W)
  rw [show (fun k : Nat => ((Pm.at_ (by_ s) (a + 4 * k) 4 : Nat) : Int)) = f from (funext hf).symm]
  have HSTEP := Lib.hid (fun k => show (List.range (k + 1)).map f = (List.range k).map f ++ [f k] by rw [List.range_succ, List.map_append]; rfl)
  have HNIL := Lib.hid (Kit.own_nil w 3)
  have HB0 := Lib.hid ((Below.refl w.heap.size w).alloc (Nat.le_refl _) (.cells #[] 3))
  clear hf
  go_enter Tryz.func115, Tryz.ntmps115
  go_wp2_with fail
  generalize w.alloc (.cells #[] 3) = w1 at *
  go_loopw [7, 8] (fun ov iv wr => ∃ j : Nat, j ≤ n ∧ iv = .int .i64 j ∧ Hid (wr.ownsRow w.heap.size 3 1 ov ((List.range j).map f).length (Kit.izs ((List.range j).map f))) ∧ Hid (Below w.heap.size w wr)) (fun _ iv _ => n - (intOf iv).toNat)
  case atStart => exact ⟨0, by omega, rfl, HNIL, HB0⟩
  case round =>
    clear HNIL HB0
    obtain ⟨j, hj, rfl, HO, HB⟩ := hrel
    obtain ⟨A, cp, rfl⟩ := own_shape HO.out
    by_cases hlt : j < n
    · have CY := Lib.hid (CX.out j hlt)
      have HN := Lib.hid (HSTEP.out j)
      have hlF : ((List.range j).map f).length ≤ 1000000 := by rw [List.length_map, List.length_range]; omega
      have hsz := HB.out.size
      have m1 : IntKind.i64.wrap (4 * (j : Int)) = 4 * (j : Int) := IntWalk.i64_in _ (by omega)
      have m2 : IntKind.i64.wrap ((a : Int) + 4 * (j : Int)) = (a : Int) + 4 * (j : Int) := IntWalk.i64_in _ (by omega)
      generalize f j = x at *
      generalize (List.range j).map f = F at *
      go_wp2_with (first | (with_reducible refine (CY.out _).mono ?_; rintro e w2 ⟨rfl, hw⟩; subst hw) | (at_builtin; refine Kit.app intInfo rfl (by decide) rfl _ _ 34 rfl Tryz.underlying34 w.heap.size _ _ _ rfl HO.out [_] 1 1 rfl rfl (Kit.one1 rfl) ?c1 hsz ?_))
      case c1 => omega
      intro v' w' ho' hb'
      have HO3 := Lib.hid ho'
      have HB3 := Lib.hid (HB.out.trans hb')
      clear ho' hb'
      go_wp2_with fail
      go_roundw
      case rel => exact ⟨j + 1, by omega, by go_num, by rw [HN.out, Kit.izs_append, List.length_append]; exact HO3, HB3⟩
      case measure => simp [intOf]; omega
    · obtain rfl : j = n := by omega
      go_wp2_with fail
      go_ret
      exact ⟨_, rfl, HO.out, HB.out⟩

set_option maxHeartbeats 1600000 in
set_option maxRecDepth 100000 in
/-- masterdiscref01.Ints of lists that are the same. -/
theorem r01Ints_any (v1 v2 : Value) (zs : List Int) (w : World) (h1 : Kit.Row w v1 (Kit.izs zs)) (h2 : Kit.Row w v2 (Kit.izs zs)) :
    Calls Tryz.prog 116 #[v1, v2] w fun e w' => e = .returned (.bool true) ∧ Below w.heap.size w w' := by
  have HR1 := Lib.hid h1
  have HR2 := Lib.hid h2
  obtain ⟨A1, c1, rfl, hlc1, hcm1, _⟩ := h1
  obtain ⟨A2, c2, rfl, hlc2, hcm2, _⟩ := h2
  rw [Kit.izs_length] at *
  unfold maxLen at hcm1 hcm2
  go_enter Tryz.func116, Tryz.ntmps116
  go_wp2_with fail
  go_loopw [5] (fun iv wr => ∃ j : Nat, j ≤ zs.length ∧ iv = .int .i64 j ∧ Hid (Below w.heap.size w wr)) (fun iv _ => zs.length - (intOf iv).toNat)
  case atStart => exact ⟨0, by omega, rfl, Lib.hid (Below.refl _ _)⟩
  case round =>
    obtain ⟨j, hj, rfl, HB⟩ := hrel
    by_cases hlt : j < zs.length
    · obtain ⟨b1, o1, c1', hv1, hbw1, hcj1⟩ := HR1.out.at_izs hlt
      obtain ⟨rfl, _, rfl⟩ : A1 = some ⟨b1, o1, none⟩ ∧ zs.length = zs.length ∧ c1 = c1' := by simpa using hv1
      obtain ⟨b2, o2, c2', hv2, hbw2, hcj2⟩ := HR2.out.at_izs hlt
      obtain ⟨rfl, _, rfl⟩ : A2 = some ⟨b2, o2, none⟩ ∧ zs.length = zs.length ∧ c2 = c2' := by simpa using hv2
      have d1 := (HB.out.cell (p := ⟨b1, o1 + j, none⟩) hbw1).trans hcj1
      have d2 := (HB.out.cell (p := ⟨b2, o2 + j, none⟩) hbw2).trans hcj2
      clear hv1 hv2 hbw1 hbw2 hcj1 hcj2
      generalize zs.getD j 0 = x at *
      go_wp2_with fail
      go_quiet (fail)
      go_wp2_with fail
      go_roundw
      case rel => exact ⟨j + 1, by omega, by go_num, Lib.hid (Kit.Below.drewN HB.out _)⟩
      case measure => simp [intOf]; omega
    · obtain rfl : j = zs.length := by omega
      go_wp2_with fail
      go_ret
      exact ⟨rfl, HB.out⟩
end Go.Proofs.YthkppbimkjmbnaaGreatDoor

/-
  The walk through the reference's ParseIntegrity.
-/
namespace Go.Proofs.YthkppbimkjmbnaaGreatDoor
set_option linter.unusedVariables false
open Go.RowKit
open Vs (bs by_)
namespace Vs
theorem at_8 (b : List UInt8) (a : Nat) : Pm.at_ b a 8 = Pm.at_ b a 4 + 4294967296 * Pm.at_ b (a + 4) 4 := by
  by_cases h : a + 4 ≤ b.length
  · have e1 : sl b a 8 = sl b a 4 ++ sl b (a + 4) 4 := by
      unfold sl
      rw [show 8 = 4 + 4 from rfl, List.take_add, List.drop_drop]
    rw [at_sl, at_sl, at_sl, e1, Pm.num_append]
    have hl : (sl b a 4).length = 4 := by unfold sl; rw [List.length_take, List.length_drop]; omega
    rw [hl]
  · have e1 : sl b (a + 4) 4 = [] := by unfold sl; rw [List.drop_eq_nil_of_le (by omega)]; rfl
    have e2 : sl b a 8 = sl b a 4 := by
      unfold sl
      rw [List.take_of_length_le (by rw [List.length_drop]; omega), List.take_of_length_le (by rw [List.length_drop]; omega)]
    rw [at_sl, at_sl, at_sl, e1, e2]
    rfl
/-- The reference's way: the upper four bytes of the number are zero. -/
theorem pin_ref {b : List UInt8} {loc : Int} (h : isB b 9 loc = true) : pinR b loc = if (readSR (sl b 16 12)).2 = 0 ∧ nIn b ≤ 8 ∧ Pm.at_ b 44 4 = 0 then (pinV b, 0) else (i0, 10) := by
  have h8 : Pm.at_ b 40 8 < 4294967296 ↔ Pm.at_ b 44 4 = 0 := by
    have e8 : Pm.at_ b 40 8 = Pm.at_ b 40 4 + 4294967296 * Pm.at_ b 44 4 := at_8 b 40
    have e9 := Pm.at_lt b 40 4
    omega
  unfold pinR
  rw [if_pos h]
  by_cases hh : (readSR (sl b 16 12)).2 = 0 ∧ Pm.at_ b 40 8 < 4294967296 ∧ nIn b ≤ 8
  · rw [if_pos hh, if_pos ⟨hh.1, hh.2.2, h8.1 hh.2.1⟩]
  · rw [if_neg hh, if_neg (fun x => hh ⟨x.1, h8.2 x.2.2, x.2.1⟩)]
theorem row7 {W : World} {g : Nat} {a b c d e f h : Value} {t : TypeId} (hg : W.heap[g]? = some (.cells #[a, b, c, d, e, f, h] t (0, 0))) (u0 u1 u2 u3 u4 u5 u6 : Value) : (((((((W.setCell ⟨g, 0, none⟩ u0).setCell ⟨g, 1, none⟩ u1).setCell ⟨g, 2, none⟩ u2).setCell ⟨g, 3, none⟩ u3).setCell ⟨g, 4, none⟩ u4).setCell ⟨g, 5, none⟩ u5).setCell ⟨g, 6, none⟩ u6).heap[g]? = some (.cells #[u0, u1, u2, u3, u4, u5, u6] t (0, 0)) := by
  have e0 := heap_setCell_same W g 0 _ _ u0 hg
  simp only [List.setIfInBounds_toArray, List.set_cons_zero] at e0
  have e1 := heap_setCell_same _ g 1 _ _ u1 e0
  simp only [List.setIfInBounds_toArray, List.set_cons_zero, List.set_cons_succ] at e1
  have e2 := heap_setCell_same _ g 2 _ _ u2 e1
  simp only [List.setIfInBounds_toArray, List.set_cons_zero, List.set_cons_succ] at e2
  have e3 := heap_setCell_same _ g 3 _ _ u3 e2
  simp only [List.setIfInBounds_toArray, List.set_cons_zero, List.set_cons_succ] at e3
  have e4 := heap_setCell_same _ g 4 _ _ u4 e3
  simp only [List.setIfInBounds_toArray, List.set_cons_zero, List.set_cons_succ] at e4
  have e5 := heap_setCell_same _ g 5 _ _ u5 e4
  simp only [List.setIfInBounds_toArray, List.set_cons_zero, List.set_cons_succ] at e5
  have e6 := heap_setCell_same _ g 6 _ _ u6 e5
  simp only [List.setIfInBounds_toArray, List.set_cons_zero, List.set_cons_succ] at e6
  exact e6
theorem below7 {b : Nat} {w W : World} {g : Nat} (h : Below b w W) (hg : b ≤ g) (u0 u1 u2 u3 u4 u5 u6 : Value) : Below b w (((((((W.setCell ⟨g, 0, none⟩ u0).setCell ⟨g, 1, none⟩ u1).setCell ⟨g, 2, none⟩ u2).setCell ⟨g, 3, none⟩ u3).setCell ⟨g, 4, none⟩ u4).setCell ⟨g, 5, none⟩ u5).setCell ⟨g, 6, none⟩ u6) :=
  ((((((h.setCell (p := ⟨g, 0, none⟩) hg _).setCell (p := ⟨g, 1, none⟩) hg _).setCell (p := ⟨g, 2, none⟩) hg _).setCell (p := ⟨g, 3, none⟩) hg _).setCell (p := ⟨g, 4, none⟩) hg _).setCell (p := ⟨g, 5, none⟩) hg _).setCell (p := ⟨g, 6, none⟩) hg _
theorem fail7 {w W' : World} {p : In × Int} (hp : p = (i0, 10)) (hb : Below w.heap.size w W') : ∃ vf vz, Ending.returned (.tuple #[.agg #[.int .i64 0, .bool false, .int .i64 0, .slice none 0 0, .slice none 0 0, .int .i64 0, .int .i64 0], .int .i64 10]) = .returned (.tuple #[.agg (inC p.1 vf vz), .int .i64 p.2]) ∧ Kit.Row W' vf (Kit.izs p.1.free) ∧ Kit.Row W' vz (Kit.izs p.1.size) ∧ Below w.heap.size w W' := by
  subst hp
  exact ⟨.slice none 0 0, .slice none 0 0, rfl, (Kit.RowS.nil _).1, (Kit.RowS.nil _).1, hb⟩
/-- The reference's contents in their box. -/
structure PrF (w W : World) (g : Nat) (Z X : Array Value) (vf vz : Value) (F G : List Int) : Prop where
  bel : Below w.heap.size w W
  hr : W.heap[w.heap.size]? = some (.cells Z 71 (0, 0))
  lt : w.heap.size < g
  row : W.heap[g]? = some (.cells X 71 (0, 0))
  of : W.ownsRow (w.heap.size + 1) 3 1 vf F.length (Kit.izs F)
  oz : W.ownsRow (w.heap.size + 1) 3 1 vz G.length (Kit.izs G)
  nf : vf.ownBlock ≠ some g
  nz : vz.ownBlock ≠ some g
section
variable {w W : World} {g : Nat} {Z X : Array Value} {vf vz : Value} {F G : List Int}
theorem PrF.start (hb : Below w.heap.size w W) (hr : W.heap[w.heap.size]? = some (.cells Z 71 (0, 0))) (hf : W.ownsRow (w.heap.size + 1) 3 1 vf F.length (Kit.izs F)) (hz : W.ownsRow (w.heap.size + 1) 3 1 vz G.length (Kit.izs G)) (X : Array Value) : PrF w (W.alloc (.cells X 71)) W.heap.size Z X vf vz F G := by
  have hl := (Array.getElem?_eq_some_iff.1 hr).1
  refine ⟨hb.alloc hb.size _, (((Below.refl W.heap.size W).alloc (Nat.le_refl _) _).block _ hl).trans hr, hl, heap_alloc_new W _, hf.alloc _, hz.alloc _, fun e => ?_, fun e => ?_⟩
  · have := (hf.lt _ e).2
    omega
  · have := (hz.lt _ e).2
    omega
theorem PrF.set (h : PrF w W g Z X vf vz F G) (j : Nat) (v : Value) : PrF w (W.setCell ⟨g, j, none⟩ v) g Z (X.setIfInBounds j v) vf vz F G := by
  have hl := h.lt
  have gs : W.grownBy (W.setCell ⟨g, j, none⟩ v) (some g) := ⟨rfl, rfl, rfl, by simp [World.setCell], fun k _ hk => Below.heap_setCell _ _ _ _ (fun e => hk (by simp [e]))⟩
  exact ⟨h.bel.setCell (p := ⟨g, j, none⟩) (Nat.le_of_lt hl) _, (heap_setCell_other _ _ _ _ (by simp; omega)).trans h.hr, hl, heap_setCell_same _ _ j _ _ _ h.row, h.of.kept gs (.inr h.nf), h.oz.kept gs (.inr h.nz), h.nf, h.nz⟩
theorem PrF.win {V : In} (h : PrF w W g Z X vf vz V.free V.size) (hX : X = inC V vf vz) {p : In × Int} (hp : p = (V, 0)) (hl : Z.size = X.size) : (W.setCells w.heap.size 0 X.toList).heap[w.heap.size]? = some (.cells X 71 (0, 0)) ∧ ∃ vf vz, Ending.returned (.tuple #[.agg X, .int .i64 0]) = .returned (.tuple #[.agg (inC p.1 vf vz), .int .i64 p.2]) ∧ Kit.Row (W.setCells w.heap.size 0 X.toList) vf (Kit.izs p.1.free) ∧ Kit.Row (W.setCells w.heap.size 0 X.toList) vz (Kit.izs p.1.size) ∧ Below w.heap.size w (W.setCells w.heap.size 0 X.toList) := by
  subst hp
  have hg := grown_put w.heap.size X.toList 0 W
  refine ⟨row_put h.hr hl, vf, vz, by rw [hX], Kit.Row.of_own (h.of.kept hg (.inr (fun e => ?_))), Kit.Row.of_own (h.oz.kept hg (.inr (fun e => ?_))), below_put (Nat.le_refl _) _ _ _ h.bel⟩
  · have := (h.of.lt _ e).1
    omega
  · have := (h.oz.lt _ e).1
    omega
end
end Vs

set_option maxHeartbeats 6400000 in
set_option maxRecDepth 100000 in
/-- masterdiscref36.ParseIntegrity, of a string that is no integrity descriptor's block. -/
theorem r36ParseIntegrity_no (s : ByteArray) (loc : Int) (w : World) (hs : s.size ≤ 9223372036854775807) (hi : Vs.isB (by_ s) 9 loc = false) :
    Calls Tryz.prog 39 #[.string s, .int .i64 loc] w fun e w' => ∃ vf vz, e = .returned (.tuple #[.agg (Vs.inC (Vs.pinR (by_ s) loc).1 vf vz), .int .i64 (Vs.pinR (by_ s) loc).2]) ∧ Kit.Row w' vf (Kit.izs (Vs.pinR (by_ s) loc).1.free) ∧ Kit.Row w' vz (Kit.izs (Vs.pinR (by_ s) loc).1.size) ∧ Below w.heap.size w w' := by
  have CI := Lib.hid (fun W => r36Is_any s 9 loc W hs)
  rw [hi] at CI
  have HR := Lib.hid (show Vs.pinR (by_ s) loc = (Vs.i0, 10) from if_neg (by rw [hi]; decide))
  have HB := Lib.hid ((Below.refl w.heap.size w).alloc (Nat.le_refl _) (.cells #[.int .i64 0, .bool false, .int .i64 0, .slice none 0 0, .slice none 0 0, .int .i64 0, .int .i64 0] 71))
  have HN := Lib.hid (heap_alloc_new w (.cells #[.int .i64 0, .bool false, .int .i64 0, .slice none 0 0, .slice none 0 0, .int .i64 0, .int .i64 0] 71))
  generalize Vs.pinR (by_ s) loc = PR at *
  clear hi
  go_enter Tryz.func39, Tryz.ntmps39
  go_wp2_with fail
  with_reducible refine (CI.out _).mono ?_
  rintro e w2 ⟨rfl, hb2⟩
  have HB2 := Lib.hid (HB.out.trans (hb2.mono HB.out.size))
  have HN2 := Lib.hid ((hb2.block w.heap.size (by simp)).trans HN.out)
  clear hb2
  have c0 := cell_of_row _ _ 0 _ _ _ HN2.out
  have c1 := cell_of_row _ _ 1 _ _ _ HN2.out
  have c2 := cell_of_row _ _ 2 _ _ _ HN2.out
  have c3 := cell_of_row _ _ 3 _ _ _ HN2.out
  have c4 := cell_of_row _ _ 4 _ _ _ HN2.out
  have c5 := cell_of_row _ _ 5 _ _ _ HN2.out
  have c6 := cell_of_row _ _ 6 _ _ _ HN2.out
  have hfj := fun j => frozen_of_row _ _ j _ _ HN2.out
  simp only [List.getElem?_toArray, List.getElem?_cons_zero, List.getElem?_cons_succ] at c0 c1 c2 c3 c4 c5 c6
  go_wp2_with fail
  exact bodyPost_ret (v := .tuple #[.agg #[.int .i64 0, .bool false, .int .i64 0, .slice none 0 0, .slice none 0 0, .int .i64 0, .int .i64 0], .int .i64 10]) (res_ct rfl _ _ w.heap.size 71 #[.int .i64 0, .bool false, .int .i64 0, .slice none 0 0, .slice none 0 0, .int .i64 0, .int .i64 0] (0, 0) _ rfl (Vs.row7 HN2.out _ _ _ _ _ _ _) Tryz.underlying71 rfl (by kernel_rfl) _ rfl) rfl (Vs.fail7 HR.out (Vs.below7 HB2.out (Nat.le_refl _) _ _ _ _ _ _ _))

set_option maxHeartbeats 12800000 in
set_option maxRecDepth 100000 in
/-- masterdiscref36.ParseIntegrity, of an integrity descriptor's block. -/
theorem r36ParseIntegrity_yes (s : ByteArray) (loc : Int) (w : World) (hs : s.size ≤ 9223372036854775807) (hi : Vs.isB (by_ s) 9 loc = true) :
    Calls Tryz.prog 39 #[.string s, .int .i64 loc] w fun e w' => ∃ vf vz, e = .returned (.tuple #[.agg (Vs.inC (Vs.pinR (by_ s) loc).1 vf vz), .int .i64 (Vs.pinR (by_ s) loc).2]) ∧ Kit.Row w' vf (Kit.izs (Vs.pinR (by_ s) loc).1.free) ∧ Kit.Row w' vz (Kit.izs (Vs.pinR (by_ s) loc).1.size) ∧ Below w.heap.size w w' := by
  have CI := Lib.hid (fun W => r36Is_any s 9 loc W hs)
  rw [hi] at CI
  have hlb := Vs.isB_len hi
  have hsz : s.size = 2048 := by rwa [Vs.by_len] at hlb
  have CR := Lib.hid (fun W => r36ReadStamp_any s 16 16 rfl (by omega) (by omega) W)
  have C1 := Lib.hid (fun W => r31N_any s 72 4 72 4 rfl rfl (by omega) (by omega) (by omega) W)
  have C2 := Lib.hid (fun W => r31N_any s 28 4 28 4 rfl rfl (by omega) (by omega) (by omega) W)
  have C3 := Lib.hid (fun W => r31N_any s 76 4 76 4 rfl rfl (by omega) (by omega) (by omega) W)
  have C4 := Lib.hid (fun W => r31N_any s 44 4 44 4 rfl rfl (by omega) (by omega) (by omega) W)
  have C5 := Lib.hid (fun W => r31N_any s 40 4 40 4 rfl rfl (by omega) (by omega) (by omega) W)
  obtain ⟨F, hF⟩ : ∃ F, F = (List.range (Vs.nIn (by_ s))).map (fun k => ((Pm.at_ (by_ s) (80 + 4 * k) 4 : Nat) : Int)) := ⟨_, rfl⟩
  obtain ⟨G, hG⟩ : ∃ G, G = (List.range (Vs.nIn (by_ s))).map (fun k => ((Pm.at_ (by_ s) (80 + 4 * (Vs.nIn (by_ s) + k)) 4 : Nat) : Int)) := ⟨_, rfl⟩
  have CF := Lib.hid (fun (hn : Vs.nIn (by_ s) ≤ 8) W => show Calls Tryz.prog 115 #[.string s, .int .i64 80, .int .i64 (Vs.nIn (by_ s) : Int)] W fun e w' => ∃ v', e = .returned v' ∧ w'.ownsRow W.heap.size 3 1 v' F.length (Kit.izs F) ∧ Below W.heap.size W w' by rw [hF]; exact r36readWords_any s 80 (Vs.nIn (by_ s)) 80 _ rfl rfl (by omega) (by omega) W)
  have CG := Lib.hid (fun (hn : Vs.nIn (by_ s) ≤ 8) W => show Calls Tryz.prog 115 #[.string s, .int .i64 (80 + 4 * (Vs.nIn (by_ s) : Int)), .int .i64 (Vs.nIn (by_ s) : Int)] W fun e w' => ∃ v', e = .returned v' ∧ w'.ownsRow W.heap.size 3 1 v' G.length (Kit.izs G) ∧ Below W.heap.size W w' by
    have h := r36readWords_any s (80 + 4 * Vs.nIn (by_ s)) (Vs.nIn (by_ s)) (80 + 4 * (Vs.nIn (by_ s) : Int)) _ (by omega) rfl (by omega) (by omega) W
    have e : G = (List.range (Vs.nIn (by_ s))).map (fun k => ((Pm.at_ (by_ s) (80 + 4 * Vs.nIn (by_ s) + 4 * k) 4 : Nat) : Int)) := by
      rw [hG]
      exact List.map_congr_left (fun k _ => by rw [show 80 + 4 * (Vs.nIn (by_ s) + k) = 80 + 4 * Vs.nIn (by_ s) + 4 * k by omega])
    rw [e]
    exact h)
  have C6 := Lib.hid (fun (hn : Vs.nIn (by_ s) ≤ 8) W => r31N_any s (80 + 8 * Vs.nIn (by_ s) + 32) 4 (112 + 8 * (Vs.nIn (by_ s) : Int)) 4 (by omega) rfl (by omega) (by omega) (by omega) W)
  have C7 := Lib.hid (fun (hn : Vs.nIn (by_ s) ≤ 8) W => r31N_any s (80 + 8 * Vs.nIn (by_ s) + 36) 4 (116 + 8 * (Vs.nIn (by_ s) : Int)) 4 (by omega) rfl (by omega) (by omega) (by omega) W)
  have HE := Lib.hid (Vs.pin_ref hi)
  have HU := Lib.hid (fun (h : Pm.at_ (by_ s) 44 4 = 0) => show ((Pm.at_ (by_ s) 40 8 : Nat) : Int) = ((Pm.at_ (by_ s) 40 4 : Nat) : Int) by have e8 : Pm.at_ (by_ s) 40 8 = Pm.at_ (by_ s) 40 4 + 4294967296 * Pm.at_ (by_ s) 44 4 := Vs.at_8 _ 40; omega)
  have HV := Lib.hid (show Vs.pinV (by_ s) = ⟨(Vs.readSR (Vs.sl (by_ s) 16 12)).1.1, decide (Pm.at_ (by_ s) 28 4 = 1), ((Pm.at_ (by_ s) 40 8 : Nat) : Int), F, G, if 46 ≤ Pm.at_ (by_ s) 76 4 then ((Pm.at_ (by_ s) (80 + 8 * Vs.nIn (by_ s) + 32) 4 : Nat) : Int) else 0, if 46 ≤ Pm.at_ (by_ s) 76 4 then ((Pm.at_ (by_ s) (80 + 8 * Vs.nIn (by_ s) + 36) 4 : Nat) : Int) else 0⟩ from by rw [hF, hG]; rfl)
  have HN := Lib.hid (show Vs.nIn (by_ s) = Pm.at_ (by_ s) 72 4 from rfl)
  rw [← HN.out] at C1
  clear hF hG hi hs hsz hlb HN
  generalize Vs.pinV (by_ s) = PV at *
  generalize Vs.pinR (by_ s) loc = PR at *
  generalize Vs.readSR (Vs.sl (by_ s) 16 12) = sr at *
  generalize ((Pm.at_ (by_ s) (80 + 8 * Vs.nIn (by_ s) + 32) 4 : Nat) : Int) = fi at *
  generalize ((Pm.at_ (by_ s) (80 + 8 * Vs.nIn (by_ s) + 36) 4 : Nat) : Int) = fo at *
  generalize Vs.nIn (by_ s) = n at *
  generalize Pm.at_ (by_ s) 28 4 = c28 at *
  generalize Pm.at_ (by_ s) 76 4 = c76 at *
  generalize Pm.at_ (by_ s) 44 4 = c44 at *
  generalize ((Pm.at_ (by_ s) 40 8 : Nat) : Int) = u8 at *
  generalize ((Pm.at_ (by_ s) 40 4 : Nat) : Int) = u at *
  obtain ⟨⟨st, szz⟩, se⟩ := sr
  simp only [] at *
  have HB := Lib.hid ((Below.refl w.heap.size w).alloc (Nat.le_refl _) (.cells #[.int .i64 0, .bool false, .int .i64 0, .slice none 0 0, .slice none 0 0, .int .i64 0, .int .i64 0] 71))
  have HN := Lib.hid (heap_alloc_new w (.cells #[.int .i64 0, .bool false, .int .i64 0, .slice none 0 0, .slice none 0 0, .int .i64 0, .int .i64 0] 71))
  have HHC := Lib.hid (show ((c28 : Int) == 1) = decide (c28 = 1) by rw [Bool.eq_iff_iff, beq_iff_eq, decide_eq_true_iff]; omega)
  generalize hse : decide (se = 0) = dse at *
  go_enter Tryz.func39, Tryz.ntmps39
  go_wp2_with fail
  with_reducible refine (CI.out _).mono ?_
  rintro e w2 ⟨rfl, hb2⟩
  have HB2 := Lib.hid (HB.out.trans (hb2.mono HB.out.size))
  have HN2 := Lib.hid ((hb2.block w.heap.size (by simp)).trans HN.out)
  clear hb2 HB HN CI
  go_wp2_with fail
  with_reducible refine (CR.out _).mono ?_
  rintro e w3 ⟨rfl, hb3⟩
  have HB3 := Lib.hid (HB2.out.trans (hb3.mono HB2.out.size))
  have HN3 := Lib.hid ((hb3.block w.heap.size (Array.getElem?_eq_some_iff.1 HN2.out).1).trans HN2.out)
  clear hb3 HB2 HN2 CR
  by_cases h1 : se = 0
  case neg =>
    rw [decide_eq_false h1] at hse
    subst hse
    have z0 := cell_of_row _ _ 0 _ _ _ HN3.out
    have z1 := cell_of_row _ _ 1 _ _ _ HN3.out
    have z2 := cell_of_row _ _ 2 _ _ _ HN3.out
    have z3 := cell_of_row _ _ 3 _ _ _ HN3.out
    have z4 := cell_of_row _ _ 4 _ _ _ HN3.out
    have z5 := cell_of_row _ _ 5 _ _ _ HN3.out
    have z6 := cell_of_row _ _ 6 _ _ _ HN3.out
    simp only [List.getElem?_toArray, List.getElem?_cons_zero, List.getElem?_cons_succ] at z0 z1 z2 z3 z4 z5 z6
    have hfj := fun j => frozen_of_row _ _ j _ _ HN3.out
    go_wp2_with (first | (with_reducible refine (C1.out _).mono ?_; rintro e wx ⟨rfl, hw⟩; subst hw) | (with_reducible refine (C4.out _).mono ?_; rintro e wx ⟨rfl, hw⟩; subst hw))
    exact bodyPost_ret (v := .tuple #[.agg #[.int .i64 0, .bool false, .int .i64 0, .slice none 0 0, .slice none 0 0, .int .i64 0, .int .i64 0], .int .i64 10]) (res_ct rfl _ _ w.heap.size 71 #[.int .i64 0, .bool false, .int .i64 0, .slice none 0 0, .slice none 0 0, .int .i64 0, .int .i64 0] (0, 0) _ rfl (Vs.row7 HN3.out _ _ _ _ _ _ _) Tryz.underlying71 rfl (by kernel_rfl) _ rfl) rfl (Vs.fail7 (HE.out.trans (if_neg (fun h => h1 h.1))) (Vs.below7 HB3.out (Nat.le_refl _) _ _ _ _ _ _ _))
  rw [decide_eq_true h1] at hse
  subst hse
  by_cases hn : n ≤ 8
  case neg =>
    have d1 : decide ((8 : Int) < (n : Int)) = true := decide_eq_true (by omega)
    have z0 := cell_of_row _ _ 0 _ _ _ HN3.out
    have z1 := cell_of_row _ _ 1 _ _ _ HN3.out
    have z2 := cell_of_row _ _ 2 _ _ _ HN3.out
    have z3 := cell_of_row _ _ 3 _ _ _ HN3.out
    have z4 := cell_of_row _ _ 4 _ _ _ HN3.out
    have z5 := cell_of_row _ _ 5 _ _ _ HN3.out
    have z6 := cell_of_row _ _ 6 _ _ _ HN3.out
    simp only [List.getElem?_toArray, List.getElem?_cons_zero, List.getElem?_cons_succ] at z0 z1 z2 z3 z4 z5 z6
    have hfj := fun j => frozen_of_row _ _ j _ _ HN3.out
    go_wp2_with (first | (with_reducible refine (C1.out _).mono ?_; rintro e wx ⟨rfl, hw⟩; subst hw) | (with_reducible refine (C4.out _).mono ?_; rintro e wx ⟨rfl, hw⟩; subst hw))
    exact bodyPost_ret (v := .tuple #[.agg #[.int .i64 0, .bool false, .int .i64 0, .slice none 0 0, .slice none 0 0, .int .i64 0, .int .i64 0], .int .i64 10]) (res_ct rfl _ _ w.heap.size 71 #[.int .i64 0, .bool false, .int .i64 0, .slice none 0 0, .slice none 0 0, .int .i64 0, .int .i64 0] (0, 0) _ rfl (Vs.row7 HN3.out _ _ _ _ _ _ _) Tryz.underlying71 rfl (by kernel_rfl) _ rfl) rfl (Vs.fail7 (HE.out.trans (if_neg (fun h => hn h.2.1))) (Vs.below7 HB3.out (Nat.le_refl _) _ _ _ _ _ _ _))
  have d1 : decide ((8 : Int) < (n : Int)) = false := decide_eq_false (by omega)
  by_cases h4 : c44 = 0
  case neg =>
    have d2 : ((c44 : Int) != 0) = true := by rw [bne_iff_ne]; omega
    have z0 := cell_of_row _ _ 0 _ _ _ HN3.out
    have z1 := cell_of_row _ _ 1 _ _ _ HN3.out
    have z2 := cell_of_row _ _ 2 _ _ _ HN3.out
    have z3 := cell_of_row _ _ 3 _ _ _ HN3.out
    have z4 := cell_of_row _ _ 4 _ _ _ HN3.out
    have z5 := cell_of_row _ _ 5 _ _ _ HN3.out
    have z6 := cell_of_row _ _ 6 _ _ _ HN3.out
    simp only [List.getElem?_toArray, List.getElem?_cons_zero, List.getElem?_cons_succ] at z0 z1 z2 z3 z4 z5 z6
    have hfj := fun j => frozen_of_row _ _ j _ _ HN3.out
    go_wp2_with (first | (with_reducible refine (C1.out _).mono ?_; rintro e wx ⟨rfl, hw⟩; subst hw) | (with_reducible refine (C4.out _).mono ?_; rintro e wx ⟨rfl, hw⟩; subst hw))
    exact bodyPost_ret (v := .tuple #[.agg #[.int .i64 0, .bool false, .int .i64 0, .slice none 0 0, .slice none 0 0, .int .i64 0, .int .i64 0], .int .i64 10]) (res_ct rfl _ _ w.heap.size 71 #[.int .i64 0, .bool false, .int .i64 0, .slice none 0 0, .slice none 0 0, .int .i64 0, .int .i64 0] (0, 0) _ rfl (Vs.row7 HN3.out _ _ _ _ _ _ _) Tryz.underlying71 rfl (by kernel_rfl) _ rfl) rfl (Vs.fail7 (HE.out.trans (if_neg (fun h => h4 h.2.2))) (Vs.below7 HB3.out (Nat.le_refl _) _ _ _ _ _ _ _))
  subst h4
  obtain rfl := HU.out rfl
  clear HU
  have CF2 := Lib.hid (CF.out hn)
  have CG2 := Lib.hid (CG.out hn)
  have C62 := Lib.hid (C6.out hn)
  have C72 := Lib.hid (C7.out hn)
  clear CF CG C6 C7
  have m1 : IntKind.i64.wrap (4 * (n : Int)) = 4 * (n : Int) := IntWalk.i64_in _ (by omega)
  have m2 : IntKind.i64.wrap (80 + 4 * (n : Int)) = 80 + 4 * (n : Int) := IntWalk.i64_in _ (by omega)
  go_wp2_with (first | (with_reducible refine (C1.out _).mono ?_; rintro e wx ⟨rfl, hw⟩; subst hw) | (with_reducible refine (C4.out _).mono ?_; rintro e wx ⟨rfl, hw⟩; subst hw) | (with_reducible refine (C2.out _).mono ?_; rintro e wx ⟨rfl, hw⟩; subst hw) | (with_reducible refine (C5.out _).mono ?_; rintro e wx ⟨rfl, hw⟩; subst hw))
  with_reducible refine (CF2.out _).mono ?_
  rintro e w4 ⟨vf, rfl, ho4, hb4⟩
  have HB4 := Lib.hid (HB3.out.trans (hb4.mono HB3.out.size))
  have HN4 := Lib.hid ((hb4.block w.heap.size (Array.getElem?_eq_some_iff.1 HN3.out).1).trans HN3.out)
  have HF4 := Lib.hid (Kit.own_base ho4 (show w.heap.size + 1 ≤ w3.heap.size from (Array.getElem?_eq_some_iff.1 HN3.out).1))
  clear hb4 ho4 HB3 HN3 CF2
  obtain ⟨Af, cf, rfl⟩ := own_shape HF4.out
  go_wp2_with fail
  with_reducible refine (CG2.out _).mono ?_
  rintro e w5 ⟨vz, rfl, ho5, hb5⟩
  have HB5 := Lib.hid (HB4.out.trans (hb5.mono HB4.out.size))
  have HN5 := Lib.hid ((hb5.block w.heap.size (Array.getElem?_eq_some_iff.1 HN4.out).1).trans HN4.out)
  have HF5 := Lib.hid (Kit.own_below HF4.out hb5)
  have HG5 := Lib.hid (Kit.own_base ho5 (show w.heap.size + 1 ≤ w4.heap.size from (Array.getElem?_eq_some_iff.1 HN4.out).1))
  clear hb5 ho5 HB4 HN4 HF4 CG2
  obtain ⟨Az, cz, rfl⟩ := own_shape HG5.out
  go_upto_region 8 with fail
  rw [HHC.out]
  generalize decide (c28 = 1) = cb at *
  have HP := Lib.hid (Vs.PrF.start HB5.out HN5.out HF5.out HG5.out #[.int .i64 st, .bool cb, .int .i64 u8, .slice Af F.length cf, .slice Az G.length cz, .int .i64 0, .int .i64 0])
  generalize w5.alloc (.cells #[.int .i64 st, .bool cb, .int .i64 u8, .slice Af F.length cf, .slice Az G.length cz, .int .i64 0, .int .i64 0] 71) = w6 at *
  generalize w5.heap.size = gb at *
  clear HB5 HN5 HF5 HG5 HHC C1 C2 C4 C5 m1 m2 d1
  go_upto_if 52 with (with_reducible refine (C3.out _).mono ?_; rintro e wx ⟨rfl, hw⟩; subst hw)
  go_cut [9] (fun s9 wx => s9 = .pointer (some ⟨gb, 0, none⟩) ∧ Hid (Vs.PrF w wx gb #[.int .i64 0, .bool false, .int .i64 0, .slice none 0 0, .slice none 0 0, .int .i64 0, .int .i64 0] #[.int .i64 st, .bool cb, .int .i64 u8, .slice Af F.length cf, .slice Az G.length cz, .int .i64 (if 46 ≤ c76 then fi else 0), .int .i64 (if 46 ≤ c76 then fo else 0)] (.slice Af F.length cf) (.slice Az G.length cz) F G))
  case first =>
    by_cases hc : 46 ≤ c76
    · have d2 : decide ((46 : Int) ≤ (c76 : Int)) = true := decide_eq_true (by omega)
      have c5 := cell_of_row _ _ 5 _ _ _ HP.out.row
      have fr := fun j => frozen_of_row _ _ j _ _ HP.out.row
      have hR := heap_setCell_same _ _ 5 _ _ (Value.int .i64 fi) HP.out.row
      have c6 := cell_of_row _ _ 6 _ _ _ hR
      have fr2 := fun j => frozen_of_row _ _ j _ _ hR
      simp only [List.getElem?_toArray, List.setIfInBounds_toArray, List.set_cons_zero, List.set_cons_succ, List.getElem?_cons_zero, List.getElem?_cons_succ] at c5 c6
      have m1 : IntKind.i64.wrap (8 * (n : Int)) = 8 * (n : Int) := IntWalk.i64_in _ (by omega)
      have m2 : IntKind.i64.wrap (112 + 8 * (n : Int)) = 112 + 8 * (n : Int) := IntWalk.i64_in _ (by omega)
      have m3 : IntKind.i64.wrap (116 + 8 * (n : Int)) = 116 + 8 * (n : Int) := IntWalk.i64_in _ (by omega)
      go_wp2_with (first | (with_reducible refine (C62.out _).mono ?_; rintro e wx ⟨rfl, hw⟩; subst hw) | (with_reducible refine (C72.out _).mono ?_; rintro e wx ⟨rfl, hw⟩; subst hw))
      go_meet
      exact ⟨rfl, by rw [if_pos hc, if_pos hc]; exact Lib.hid ((HP.out.set 5 (.int .i64 fi)).set 6 (.int .i64 fo))⟩
    · have d2 : decide ((46 : Int) ≤ (c76 : Int)) = false := decide_eq_false (by omega)
      go_wp2_with fail
      go_meet
      exact ⟨rfl, by rw [if_neg hc, if_neg hc]; exact HP⟩
  case rest =>
    obtain ⟨rfl, HQ⟩ := hcut
    have HXV := Lib.hid (show #[.int .i64 st, .bool cb, .int .i64 u8, .slice Af F.length cf, .slice Az G.length cz, .int .i64 (if 46 ≤ c76 then fi else 0), .int .i64 (if 46 ≤ c76 then fo else 0)] = Vs.inC PV (.slice Af F.length cf) (.slice Az G.length cz) by rw [HV.out]; rfl)
    have HFR := Lib.hid (show F = PV.free ∧ G = PV.size from ⟨by rw [HV.out], by rw [HV.out]⟩)
    rw [HXV.out] at HQ
    obtain ⟨X, hX⟩ : ∃ X, X = Vs.inC PV (.slice Af F.length cf) (.slice Az G.length cz) := ⟨_, rfl⟩
    have HX1 := Lib.hid (show X.all (·.oneCell') = true by rw [hX]; unfold Vs.inC; simp [Value.oneCell'])
    have HXI := Lib.hid (show (Tryz.prog.info? 71).map (·.size) = some X.size by rw [hX]; exact Vs.zI_info)
    have hx7 : X.size = 7 := by rw [hX]; rfl
    have HLX := Lib.hid (fun (W : World) (h : W.heap[gb]? = some (.cells X 71 (0, 0))) => show (loadVar 71 ⟨gb, 0, none⟩).run Tryz.prog W = .ok (.agg X) W by rw [hX] at h ⊢; exact Vs.ibox_load h)
    have HXE := Lib.hid hX
    rw [← hX] at HQ
    clear hX HP HXV HV C3 C62 C72
    have HL2 := Lib.hid (HLX.out _ HQ.out.row)
    have hst := Vs.run_put (P := Tryz.prog) HQ.out.hr X (by rw [hx7]; rfl) HX1.out
    have HW := Lib.hid (show Vs.PrF w wc gb #[.int .i64 0, .bool false, .int .i64 0, .slice none 0 0, .slice none 0 0, .int .i64 0, .int .i64 0] X (.slice Af F.length cf) (.slice Az G.length cz) PV.free PV.size by rw [← HFR.out.1, ← HFR.out.2]; exact HQ.out)
    have HWW := Lib.hid (HW.out.win HXE.out (HE.out.trans (if_pos ⟨h1, hn, trivial⟩)) (by rw [hx7]; rfl))
    clear HW HE HQ HFR HXE HLX
    go_wp2_with (refine wpList_load_at 71 _ rfl gb 0 rfl _ HL2.out (by rfl) ?_)
    exact bodyPost_ret (v := .tuple #[.agg X, .int .i64 0]) (res_ct rfl _ _ w.heap.size 71 X (0, 0) _ rfl HWW.out.1 Tryz.underlying71 rfl HXI.out _ rfl) rfl HWW.out.2
/-- masterdiscref36.ParseIntegrity. -/
theorem r36ParseIntegrity_any (s : ByteArray) (loc : Int) (w : World) (hs : s.size ≤ 9223372036854775807) :
    Calls Tryz.prog 39 #[.string s, .int .i64 loc] w fun e w' => ∃ vf vz, e = .returned (.tuple #[.agg (Vs.inC (Vs.pinR (by_ s) loc).1 vf vz), .int .i64 (Vs.pinR (by_ s) loc).2]) ∧ Kit.Row w' vf (Kit.izs (Vs.pinR (by_ s) loc).1.free) ∧ Kit.Row w' vz (Kit.izs (Vs.pinR (by_ s) loc).1.size) ∧ Below w.heap.size w w' := by
  cases h : Vs.isB (by_ s) 9 loc with
  | false => exact r36ParseIntegrity_no s loc w hs h
  | true => exact r36ParseIntegrity_yes s loc w hs h
end Go.Proofs.YthkppbimkjmbnaaGreatDoor

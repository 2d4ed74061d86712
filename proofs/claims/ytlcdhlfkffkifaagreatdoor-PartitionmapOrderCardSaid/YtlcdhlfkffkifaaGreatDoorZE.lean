/-
  The program's decode of a map: the second kind, by the name's kind.
-/
import Derived.Test.YtlcdhlfkffkifaaGreatDoorZD
import Derived.Maps.StringElems
namespace Go.Proofs.YtlcdhlfkffkifaaGreatDoor
open Go.RowKit Go.Maps

set_option maxHeartbeats 6400000 in
set_option maxRecDepth 100000 in
/-- partitionmap.decode: the second kind, an unknown name. -/
theorem decode_two_0 (d : ByteArray) (w : World) (m : Int) (hM : w.cell? ⟨0, 0, none⟩ = some (.int .i64 m)) (h2 : 2 ≤ d.size) (h1 : Cs.byt d.data.toList 1 ≤ d.size) (h0 : Cs.byt d.data.toList 0 = 2) (h6 : Cs.byt d.data.toList 1 = 64) (he : (Cs.pentR ((d.data.toList.drop 4).take 32)).2 = 0) (hk : Hid (Pm.kindOf (Cs.pentR ((d.data.toList.drop 4).take 32)).1.1 = 0)) (hs : d.size ≤ 4096) :
    Calls Tryz.prog 31 #[.string d] w fun e w' => e = .returned (badV 14) ∧ Below w.heap.size w w' := by
  have hi1 : 1 < d.size := by omega
  have hi0 : 0 < d.size := by omega
  have hy0 := Kit.byt_get d 0 hi0
  have hy1 := Kit.byt_get d 1 hi1
  have hl0 := Cs.byt_lt d.data.toList 0
  have hl1 := Cs.byt_lt d.data.toList 1
  have hw1 := IntWalk.wrap64_in (Cs.byt d.data.toList 1 : Int) (by omega)
  have d2 : decide ((d.size : Int) < 2) = false := decide_eq_false (by omega)
  have d3 : decide ((d.size : Int) < (Cs.byt d.data.toList 1 : Int)) = false := decide_eq_false (by omega)
  have hwk : (Lit.int .u8 (Cs.byt d.data.toList 0 : Int)).wf = true := by
    show (decide (IntKind.min .u8 ≤ (Cs.byt d.data.toList 0 : Int)) && decide ((Cs.byt d.data.toList 0 : Int) ≤ IntKind.max .u8)) = true
    rw [show IntKind.min .u8 = 0 from rfl, show IntKind.max .u8 = 255 from rfl, Bool.and_eq_true, decide_eq_true_eq, decide_eq_true_eq]
    omega
  have hmm := @run_makeMap Tryz.prog
  have H0 : Hid (∀ nq, BMap ((((decW w d).alloc (.cells #[.int .i64 0, .int .i64 0, .slice none 0 0, .int .i64 0, .int .i64 0, .int .i64 0] 59)).drewN nq).alloc (.map #[] 0)) (w.heap.size + 1 + 1 + 1) 0 (.map [])) := Lib.hid fun nq => by
    have h := World.ownsMap_made (((decW w d).alloc (.cells #[.int .i64 0, .int .i64 0, .slice none 0 0, .int .i64 0, .int .i64 0, .int .i64 0] 59)).drewN nq) Tryz.prog 5 asIs
    rw [show (((decW w d).alloc (.cells #[.int .i64 0, .int .i64 0, .slice none 0 0, .int .i64 0, .int .i64 0, .int .i64 0] 59)).drewN nq).heap.size = w.heap.size + 1 + 1 + 1 by simp] at h
    exact h
  go_enter Tryz.func31, Tryz.ntmps31
  go_wp2_with fail
  go_quiet (fail)
  go_wp2_with (refine Kit.wpList_insert_own _ rfl (.tmp 30) _ _ _ rfl 5 3 keyedU8 (by kernel_rfl) _ (w.heap.size + 1 + 1 + 1) 0 _ rfl (H0.out nq) (by unfold maxLen; omega) (.int .u8 1) _ (.int .u8 1) rfl rfl (keyOf_int_mk Tryz.underlying5 (by decide)) _ [] rfl ?_)
  intro w1 hown1 hg1
  have H1 := Lib.hid hown1
  clear hown1
  go_wp2_with (refine Kit.wpList_insert_own _ rfl (.tmp 30) _ _ _ rfl 5 3 keyedU8 (by kernel_rfl) _ (w.heap.size + 1 + 1 + 1) 1 _ rfl H1.out (by unfold maxLen; omega) (.int .u8 2) _ (.int .u8 2) rfl rfl (keyOf_int_mk Tryz.underlying5 (by decide)) _ [] rfl ?_)
  intro w2 hown2 hg2
  have hlk := two_look (Cs.byt d.data.toList 0 : Int) w2 (w.heap.size + 1 + 1 + 1) 2 hown2 hwk
  have hgg := hg1.trans hg2
  have hD : DecAt w d w2 := DecAt.start w d nq (((Below.refl _ _).alloc (by simp) _).grown hgg (by simp) (fun q hq => by cases hq; exact Nat.le_refl _))
  clear hown2 hgg hg1 hg2 H0 H1 hwk
  rw [if_neg (by omega), if_pos (by omega)] at hlk
  clear h0
  have d6 : ((Cs.byt d.data.toList 1 : Int) != 64) = false := by rw [bne_eq_false_iff_eq]; omega
  have h64s : 64 ≤ d.size := by omega
  clear h6
  have hbw2 : Below w.heap.size w w2 := (((Below.refl _ w).alloc (Nat.le_refl _) _).alloc (by simp) _).trans (hD.below.mono (by omega))
  have hM2 := (hbw2.cell (p := ⟨0, 0, none⟩) (World.block_lt_of_cell? _ _ hM)).trans hM
  have cp := pent_any (d.extract 4 36) w2 m hM2 (by simp <;> omega)
  rw [show (d.extract 4 36).data.toList = (d.data.toList.drop 4).take 32 by rw [Lib.extract_data]] at cp
  generalize Cs.pentR ((d.data.toList.drop 4).take 32) = P at *
  obtain ⟨⟨P1, P2⟩, P3⟩ := P
  simp only [] at *
  have CP := Lib.hid cp
  have hstr := hD.str
  have HD2 := Lib.hid hD
  clear cp hM hM2 hD hbw2
  go_wp2_with fail
  refine CP.out.mono ?_
  rintro e w3 ⟨rfl, hb3⟩
  have hD := HD2.out.later hb3
  clear hstr hlk CP
  have d7 : (P3 != 0) = false := by rw [bne_eq_false_iff_eq]; exact he
  have hstr := hD.str
  have HD := Lib.hid hD
  clear hb3 hD he HD2 d2 d3 d6 hy0 hy1 hl0 hl1 hw1
  have CN1 := Lib.hid (number_any d 38 2 38 2 rfl rfl w.heap.size w3 (by unfold Pm.Sz; omega) (by omega) (by omega) (by omega) hstr)
  go_wp2_with fail
  refine CN1.out.mono ?_
  rintro e wn ⟨rfl, rfl⟩
  clear CN1
  go_wp2_with fail
  refine (identifiers_any _).mono ?_
  rintro e w4 ⟨bm, rfl, hbm, hS, hb4⟩
  have hX4 : XAt w4 w3.heap.size 0 (Pm.at_ d.data.toList 38 2 : Int) := (XAt.new w3 _ 59).below hb4
  have hsz4 : w3.heap.size + 1 ≤ w4.heap.size := by have := hb4.size; simp at this; exact this
  have hbm' : w3.heap.size + 1 ≤ bm := by simpa using hbm
  have hb34 : Below w3.heap.size w3 w4 := ((Below.refl _ w3).alloc (Nat.le_refl _) _).trans (hb4.mono (by simp))
  clear hb4 hbm hstr d7
  go_wp2_with (at_range; refine wpList_range_own _ rfl _ 85 rfl 3 9 keyedInt (by kernel_rfl) (plainElem Tryz.prog 9) bm 3 _ rfl hS ?_; intro w5 hrg5 hg5 hs5)
  go_frame
  have hX5 := hX4.grown hg5 (by simp)
  have hb35 : Below w3.heap.size w3 w5 := hb34.grown hg5 hb34.size (fun j hj => by cases hj)
  have H5 := Lib.hid (And.intro hX5 hb35)
  clear hX4 hX5 hb34 hb35 hg5 hs5 hS
  go_loopw [12, 13] (fun _ _ wr => ∃ left cnt, wr.ranges Tryz.prog 3 (plainElem Tryz.prog 9) bm w4.heap.size 3 idD left cnt ∧ XAt wr w3.heap.size (if (0 : Int) ≠ 0 ∧ left (.int .i64 0) = false then 0 else 0) (Pm.at_ d.data.toList 38 2 : Int) ∧ Below w3.heap.size w3 wr) (fun _ _ wr => wr.rangeLeft bm w4.heap.size)
  case atStart =>
    refine ⟨_, _, hrg5, ?_, H5.out.2⟩
    rw [if_neg]
    · exact H5.out.1
    · rintro ⟨h0, h⟩
      first | exact absurd (show true = false from h) (by decide) | exact h0 rfl
  case round =>
    obtain ⟨left, cnt, hrg, hX, hbr⟩ := hrel
    go_wp2_with (at_next; refine wpList_next_ranges_is _ rfl _ rfl 3 9 .i64 keyedInt Tryz.underlying3 Tryz.underlying9 bm w4.heap.size 3 _ _ _ rfl hrg ?_ ?_)
    · intro hc0 hl0
      have hXK : XAt wr w3.heap.size 0 (Pm.at_ d.data.toList 38 2 : Int) := by
        have h := hX
        first | (rw [if_pos ⟨by decide, hl0 _⟩] at h; exact h) | (rw [if_neg (by simp)] at h; exact h)
      have hD := HD.out.later hbr
      clear hX hrg hc0 hl0 H5
      have r0 := hD.res 0 _ rfl
      have n0 := hD.non 0 _ rfl
      have f0 := hD.free 0
      have r1 := hD.res 1 _ rfl
      have n1 := hD.non 1 _ rfl
      have f1 := hD.free 1
      have r2 := hD.res 2 _ rfl
      have n2 := hD.non 2 _ rfl
      have f2 := hD.free 2
      have r3 := hD.res 3 _ rfl
      have n3 := hD.non 3 _ rfl
      have f3 := hD.free 3
      have r4 := hD.res 4 _ rfl
      have n4 := hD.non 4 _ rfl
      have f4 := hD.free 4
      have r5 := hD.res 5 _ rfl
      have n5 := hD.non 5 _ rfl
      have f5 := hD.free 5
      have hstr := hD.str
      have x0 := hXK.cells 0 _ rfl
      have x1 := hXK.cells 1 _ rfl
      have x2 := hXK.cells 2 _ rfl
      have x3 := hXK.cells 3 _ rfl
      have x4 := hXK.cells 4 _ rfl
      have x5 := hXK.cells 5 _ rfl
      have g3 := hXK.free 3
      have g4 := hXK.free 4
      have g5 := hXK.free 5
      have HD3 := Lib.hid hD
      clear hD
      go_wp2_with fail
      have hf := dec_fin w d _ HD3.out.below (.int .i64 0) (.int .i64 0) (.slice none 0 0) (.int .i64 0) (.int .i64 0) (.int .i64 0)
      exact bodyPost_ret (dec_results _ _ (w.heap.size + 1) [.int .i64 0, .int .i64 0, .slice none 0 0, .int .i64 0, .int .i64 0, .int .i64 0] (.int .i64 0) (.int .i64 14) rfl rfl rfl rfl hf.1) rfl ⟨rfl, hf.2⟩
    · intro x c w6 cnt6 hwx hwc hlx hat hrg6 hlt hg6 hs6 hen
      obtain ⟨hx, hc⟩ := idD_step hat
      have hX6 := hX.grown hg6 (fun e => by have := Option.some.inj e; omega)
      have hb6 : Below w3.heap.size w3 w6 := hbr.grown hg6 hbr.size (fun j hj => by cases hj; omega)
      have hcq : c = ⟨(nameK x).toArray⟩ := by rw [← hc]
      have hko := kindOf_name (s := P1) hx
      have HKX := Lib.hid hx
      clear hx hc hat hg6 hs6 hlx H5
      subst hcq
      by_cases hq : nameK x = P1
      · have hKx : (0 : Int) = x := by rw [← hk.out]; exact hko.1 hq
        rw [hq] at hen
        have x0 := hX6.cells 0 _ rfl
        have f0 := hX6.free 0
        have HX6 := Lib.hid hX6
        clear hX6 hko hq
        subst hKx
        go_wp2_with fail
        have hgS := grownBy_setCell' w6 w3.heap.size (.int .i64 0)
        have hrg7 := hrg6.kept hgS (fun e => by have := Option.some.inj e; omega) (fun e => by have := Option.some.inj e; omega)
        go_roundw
        case rel =>
          refine ⟨_, cnt6, hrg7, ?_, hb6.setCell (Nat.le_refl _) _⟩
          first
            | (rw [if_pos ⟨by decide, by simp [Lit.sameKey]⟩]; exact HX6.out.set _)
            | (exfalso; have := HKX.out; omega)
        case measure => rw [hrg7.left_eq, hrg.left_eq]; exact hlt
      · have hKx : ¬ (0 : Int) = x := fun e => hq (hko.2 (hk.out.trans e))
        have hne : (nameK x == P1) = false := by rw [beq_eq_false_iff_ne]; exact hq
        have HX6 := Lib.hid hX6
        clear hX6 hko hq
        go_wp2_with fail
        go_roundw
        case rel =>
          refine ⟨_, cnt6, hrg6, ?_, hb6⟩
          have hs : (left (.int .i64 0) && !(Lit.int .i64 0).sameKey (.int .i64 x)) = left (.int .i64 0) := by simp [Lit.sameKey, hKx]
          rw [hs]
          exact HX6.out
        case measure => rw [hrg6.left_eq, hrg.left_eq]; exact hlt

set_option maxHeartbeats 6400000 in
set_option maxRecDepth 100000 in
/-- partitionmap.decode: the second kind, virtual. -/
theorem decode_two_1 (d : ByteArray) (w : World) (m : Int) (hM : w.cell? ⟨0, 0, none⟩ = some (.int .i64 m)) (h2 : 2 ≤ d.size) (h1 : Cs.byt d.data.toList 1 ≤ d.size) (h0 : Cs.byt d.data.toList 0 = 2) (h6 : Cs.byt d.data.toList 1 = 64) (he : (Cs.pentR ((d.data.toList.drop 4).take 32)).2 = 0) (hk : Hid (Pm.kindOf (Cs.pentR ((d.data.toList.drop 4).take 32)).1.1 = 1)) (hs : d.size ≤ 4096) :
    Calls Tryz.prog 31 #[.string d] w fun e w' => e = .returned (.tuple #[Pm.pmV ⟨1, (Pm.at_ d.data.toList 38 2 : Int), [], 0, 0, 0⟩ (.slice none 0 0), .int .i64 64, .int .i64 0]) ∧ Below w.heap.size w w' := by
  have hi1 : 1 < d.size := by omega
  have hi0 : 0 < d.size := by omega
  have hy0 := Kit.byt_get d 0 hi0
  have hy1 := Kit.byt_get d 1 hi1
  have hl0 := Cs.byt_lt d.data.toList 0
  have hl1 := Cs.byt_lt d.data.toList 1
  have hw1 := IntWalk.wrap64_in (Cs.byt d.data.toList 1 : Int) (by omega)
  have d2 : decide ((d.size : Int) < 2) = false := decide_eq_false (by omega)
  have d3 : decide ((d.size : Int) < (Cs.byt d.data.toList 1 : Int)) = false := decide_eq_false (by omega)
  have hwk : (Lit.int .u8 (Cs.byt d.data.toList 0 : Int)).wf = true := by
    show (decide (IntKind.min .u8 ≤ (Cs.byt d.data.toList 0 : Int)) && decide ((Cs.byt d.data.toList 0 : Int) ≤ IntKind.max .u8)) = true
    rw [show IntKind.min .u8 = 0 from rfl, show IntKind.max .u8 = 255 from rfl, Bool.and_eq_true, decide_eq_true_eq, decide_eq_true_eq]
    omega
  have hmm := @run_makeMap Tryz.prog
  have H0 : Hid (∀ nq, BMap ((((decW w d).alloc (.cells #[.int .i64 0, .int .i64 0, .slice none 0 0, .int .i64 0, .int .i64 0, .int .i64 0] 59)).drewN nq).alloc (.map #[] 0)) (w.heap.size + 1 + 1 + 1) 0 (.map [])) := Lib.hid fun nq => by
    have h := World.ownsMap_made (((decW w d).alloc (.cells #[.int .i64 0, .int .i64 0, .slice none 0 0, .int .i64 0, .int .i64 0, .int .i64 0] 59)).drewN nq) Tryz.prog 5 asIs
    rw [show (((decW w d).alloc (.cells #[.int .i64 0, .int .i64 0, .slice none 0 0, .int .i64 0, .int .i64 0, .int .i64 0] 59)).drewN nq).heap.size = w.heap.size + 1 + 1 + 1 by simp] at h
    exact h
  go_enter Tryz.func31, Tryz.ntmps31
  go_wp2_with fail
  go_quiet (fail)
  go_wp2_with (refine Kit.wpList_insert_own _ rfl (.tmp 30) _ _ _ rfl 5 3 keyedU8 (by kernel_rfl) _ (w.heap.size + 1 + 1 + 1) 0 _ rfl (H0.out nq) (by unfold maxLen; omega) (.int .u8 1) _ (.int .u8 1) rfl rfl (keyOf_int_mk Tryz.underlying5 (by decide)) _ [] rfl ?_)
  intro w1 hown1 hg1
  have H1 := Lib.hid hown1
  clear hown1
  go_wp2_with (refine Kit.wpList_insert_own _ rfl (.tmp 30) _ _ _ rfl 5 3 keyedU8 (by kernel_rfl) _ (w.heap.size + 1 + 1 + 1) 1 _ rfl H1.out (by unfold maxLen; omega) (.int .u8 2) _ (.int .u8 2) rfl rfl (keyOf_int_mk Tryz.underlying5 (by decide)) _ [] rfl ?_)
  intro w2 hown2 hg2
  have hlk := two_look (Cs.byt d.data.toList 0 : Int) w2 (w.heap.size + 1 + 1 + 1) 2 hown2 hwk
  have hgg := hg1.trans hg2
  have hD : DecAt w d w2 := DecAt.start w d nq (((Below.refl _ _).alloc (by simp) _).grown hgg (by simp) (fun q hq => by cases hq; exact Nat.le_refl _))
  clear hown2 hgg hg1 hg2 H0 H1 hwk
  rw [if_neg (by omega), if_pos (by omega)] at hlk
  clear h0
  have d6 : ((Cs.byt d.data.toList 1 : Int) != 64) = false := by rw [bne_eq_false_iff_eq]; omega
  have h64s : 64 ≤ d.size := by omega
  clear h6
  have hbw2 : Below w.heap.size w w2 := (((Below.refl _ w).alloc (Nat.le_refl _) _).alloc (by simp) _).trans (hD.below.mono (by omega))
  have hM2 := (hbw2.cell (p := ⟨0, 0, none⟩) (World.block_lt_of_cell? _ _ hM)).trans hM
  have cp := pent_any (d.extract 4 36) w2 m hM2 (by simp <;> omega)
  rw [show (d.extract 4 36).data.toList = (d.data.toList.drop 4).take 32 by rw [Lib.extract_data]] at cp
  generalize Cs.pentR ((d.data.toList.drop 4).take 32) = P at *
  obtain ⟨⟨P1, P2⟩, P3⟩ := P
  simp only [] at *
  have CP := Lib.hid cp
  have hstr := hD.str
  have HD2 := Lib.hid hD
  clear cp hM hM2 hD hbw2
  go_wp2_with fail
  refine CP.out.mono ?_
  rintro e w3 ⟨rfl, hb3⟩
  have hD := HD2.out.later hb3
  clear hstr hlk CP
  have d7 : (P3 != 0) = false := by rw [bne_eq_false_iff_eq]; exact he
  have hstr := hD.str
  have HD := Lib.hid hD
  clear hb3 hD he HD2 d2 d3 d6 hy0 hy1 hl0 hl1 hw1
  have CN1 := Lib.hid (number_any d 38 2 38 2 rfl rfl w.heap.size w3 (by unfold Pm.Sz; omega) (by omega) (by omega) (by omega) hstr)
  go_wp2_with fail
  refine CN1.out.mono ?_
  rintro e wn ⟨rfl, rfl⟩
  clear CN1
  go_wp2_with fail
  refine (identifiers_any _).mono ?_
  rintro e w4 ⟨bm, rfl, hbm, hS, hb4⟩
  have hX4 : XAt w4 w3.heap.size 0 (Pm.at_ d.data.toList 38 2 : Int) := (XAt.new w3 _ 59).below hb4
  have hsz4 : w3.heap.size + 1 ≤ w4.heap.size := by have := hb4.size; simp at this; exact this
  have hbm' : w3.heap.size + 1 ≤ bm := by simpa using hbm
  have hb34 : Below w3.heap.size w3 w4 := ((Below.refl _ w3).alloc (Nat.le_refl _) _).trans (hb4.mono (by simp))
  clear hb4 hbm hstr d7
  go_wp2_with (at_range; refine wpList_range_own _ rfl _ 85 rfl 3 9 keyedInt (by kernel_rfl) (plainElem Tryz.prog 9) bm 3 _ rfl hS ?_; intro w5 hrg5 hg5 hs5)
  go_frame
  have hX5 := hX4.grown hg5 (by simp)
  have hb35 : Below w3.heap.size w3 w5 := hb34.grown hg5 hb34.size (fun j hj => by cases hj)
  have H5 := Lib.hid (And.intro hX5 hb35)
  clear hX4 hX5 hb34 hb35 hg5 hs5 hS
  go_loopw [12, 13] (fun _ _ wr => ∃ left cnt, wr.ranges Tryz.prog 3 (plainElem Tryz.prog 9) bm w4.heap.size 3 idD left cnt ∧ XAt wr w3.heap.size (if (1 : Int) ≠ 0 ∧ left (.int .i64 1) = false then 1 else 0) (Pm.at_ d.data.toList 38 2 : Int) ∧ Below w3.heap.size w3 wr) (fun _ _ wr => wr.rangeLeft bm w4.heap.size)
  case atStart =>
    refine ⟨_, _, hrg5, ?_, H5.out.2⟩
    rw [if_neg]
    · exact H5.out.1
    · rintro ⟨h0, h⟩
      first | exact absurd (show true = false from h) (by decide) | exact h0 rfl
  case round =>
    obtain ⟨left, cnt, hrg, hX, hbr⟩ := hrel
    go_wp2_with (at_next; refine wpList_next_ranges_is _ rfl _ rfl 3 9 .i64 keyedInt Tryz.underlying3 Tryz.underlying9 bm w4.heap.size 3 _ _ _ rfl hrg ?_ ?_)
    · intro hc0 hl0
      have hXK : XAt wr w3.heap.size 1 (Pm.at_ d.data.toList 38 2 : Int) := by
        have h := hX
        first | (rw [if_pos ⟨by decide, hl0 _⟩] at h; exact h) | (rw [if_neg (by simp)] at h; exact h)
      have hD := HD.out.later hbr
      clear hX hrg hc0 hl0 H5
      have r0 := hD.res 0 _ rfl
      have n0 := hD.non 0 _ rfl
      have f0 := hD.free 0
      have r1 := hD.res 1 _ rfl
      have n1 := hD.non 1 _ rfl
      have f1 := hD.free 1
      have r2 := hD.res 2 _ rfl
      have n2 := hD.non 2 _ rfl
      have f2 := hD.free 2
      have r3 := hD.res 3 _ rfl
      have n3 := hD.non 3 _ rfl
      have f3 := hD.free 3
      have r4 := hD.res 4 _ rfl
      have n4 := hD.non 4 _ rfl
      have f4 := hD.free 4
      have r5 := hD.res 5 _ rfl
      have n5 := hD.non 5 _ rfl
      have f5 := hD.free 5
      have hstr := hD.str
      have x0 := hXK.cells 0 _ rfl
      have x1 := hXK.cells 1 _ rfl
      have x2 := hXK.cells 2 _ rfl
      have x3 := hXK.cells 3 _ rfl
      have x4 := hXK.cells 4 _ rfl
      have x5 := hXK.cells 5 _ rfl
      have g3 := hXK.free 3
      have g4 := hXK.free 4
      have g5 := hXK.free 5
      have HD3 := Lib.hid hD
      clear hD
      go_wp2_with fail
      have hf := dec_fin w d _ HD3.out.below (.int .i64 1) (.int .i64 (Pm.at_ d.data.toList 38 2 : Int)) (.slice none 0 0) (.int .i64 0) (.int .i64 0) (.int .i64 0)
      exact bodyPost_ret (dec_results _ _ (w.heap.size + 1) [.int .i64 1, .int .i64 (Pm.at_ d.data.toList 38 2 : Int), .slice none 0 0, .int .i64 0, .int .i64 0, .int .i64 0] (.int .i64 64) (.int .i64 0) rfl rfl rfl rfl hf.1) rfl ⟨rfl, hf.2⟩
    · intro x c w6 cnt6 hwx hwc hlx hat hrg6 hlt hg6 hs6 hen
      obtain ⟨hx, hc⟩ := idD_step hat
      have hX6 := hX.grown hg6 (fun e => by have := Option.some.inj e; omega)
      have hb6 : Below w3.heap.size w3 w6 := hbr.grown hg6 hbr.size (fun j hj => by cases hj; omega)
      have hcq : c = ⟨(nameK x).toArray⟩ := by rw [← hc]
      have hko := kindOf_name (s := P1) hx
      have HKX := Lib.hid hx
      clear hx hc hat hg6 hs6 hlx H5
      subst hcq
      by_cases hq : nameK x = P1
      · have hKx : (1 : Int) = x := by rw [← hk.out]; exact hko.1 hq
        rw [hq] at hen
        have x0 := hX6.cells 0 _ rfl
        have f0 := hX6.free 0
        have HX6 := Lib.hid hX6
        clear hX6 hko hq
        subst hKx
        go_wp2_with fail
        have hgS := grownBy_setCell' w6 w3.heap.size (.int .i64 1)
        have hrg7 := hrg6.kept hgS (fun e => by have := Option.some.inj e; omega) (fun e => by have := Option.some.inj e; omega)
        go_roundw
        case rel =>
          refine ⟨_, cnt6, hrg7, ?_, hb6.setCell (Nat.le_refl _) _⟩
          first
            | (rw [if_pos ⟨by decide, by simp [Lit.sameKey]⟩]; exact HX6.out.set _)
            | (exfalso; have := HKX.out; omega)
        case measure => rw [hrg7.left_eq, hrg.left_eq]; exact hlt
      · have hKx : ¬ (1 : Int) = x := fun e => hq (hko.2 (hk.out.trans e))
        have hne : (nameK x == P1) = false := by rw [beq_eq_false_iff_ne]; exact hq
        have HX6 := Lib.hid hX6
        clear hX6 hko hq
        go_wp2_with fail
        go_roundw
        case rel =>
          refine ⟨_, cnt6, hrg6, ?_, hb6⟩
          have hs : (left (.int .i64 1) && !(Lit.int .i64 1).sameKey (.int .i64 x)) = left (.int .i64 1) := by simp [Lit.sameKey, hKx]
          rw [hs]
          exact HX6.out
        case measure => rw [hrg6.left_eq, hrg.left_eq]; exact hlt
end Go.Proofs.YtlcdhlfkffkifaaGreatDoor

/-
  slices.Concat of two slices of ints, empty or not.
-/
import Derived.Test.YthkppbimkjmbnaaGreatDoorXa
import Derived.Test.YthkppbimkjmbnaaGreatDoorZP
import Derived.Test.YthkppbimkjmbnaaGreatDoorZX
namespace Go.Proofs.YthkppbimkjmbnaaGreatDoor
set_option linter.unusedVariables false
open Go.RowKit
open Vs (bs by_)

set_option maxHeartbeats 3200000 in
set_option maxRecDepth 100000 in
/-- slices.Concat of two empty slices. -/
theorem concatE_any (b : Nat) (A1 A2 : Option Addr) (c1 c2 : Nat) (w : World) (hb : b < w.heap.size) (hc0 : w.cell? ⟨b, 0, none⟩ = some (.slice A1 0 c1)) (hc1 : w.cell? ⟨b, 1, none⟩ = some (.slice A2 0 c2))
    (h1 : Kit.RowS w (.slice A1 0 c1) (Kit.izs [])) (h2 : Kit.RowS w (.slice A2 0 c2) (Kit.izs [])) :
    Calls Tryz.prog 109 #[.slice (some ⟨b, 0, none⟩) 2 2] w fun e w' => ∃ v', e = .returned v' ∧ w'.ownsRow w.heap.size 3 1 v' 0 (Kit.izs []) ∧ Below w.heap.size w w' := by
  have CG := Lib.hid (fun W => grow0_any W)
  have H1 := Lib.hid h1
  have H2 := Lib.hid h2
  have HC0 := Lib.hid hc0
  have HC1 := Lib.hid hc1
  go_enter Tryz.func109, Tryz.ntmps109
  go_wp2_with fail
  go_loop [3, 5, 11] (fun nv _ iv => ∃ j : Nat, j ≤ 2 ∧ iv = .int .i64 j ∧ nv = .int .i64 0) (fun _ _ iv => 2 - (intOf iv).toNat)
  case atStart => exact ⟨0, by omega, rfl, rfl⟩
  case round =>
    obtain ⟨j, hj, rfl, rfl⟩ := hrel
    have hj3 : j = 0 ∨ j = 1 ∨ j = 2 := by omega
    rcases hj3 with rfl | rfl | rfl
    · go_wp2_with fail
      go_round
      case rel => exact ⟨1, by omega, by first | rfl | go_num, rfl⟩
      case measure => simp [intOf]
    · go_wp2_with fail
      go_round
      case rel => exact ⟨2, by omega, by first | rfl | go_num, rfl⟩
      case measure => simp [intOf]
    · go_wp2_with fail
      with_reducible refine (CG.out _).mono ?_
      rintro e w3 ⟨rfl, hw⟩
      subst hw
      go_wp2_with fail
      go_loopw [6, 8, 27] (fun nv _ iv wr => ∃ j : Nat, j ≤ 2 ∧ iv = .int .i64 j ∧ wr.ownsRow w.heap.size 3 1 nv 0 [] ∧ Below w.heap.size w wr) (fun _ _ iv _ => 2 - (intOf iv).toNat)
      case atStart => exact ⟨0, by omega, rfl, ⟨rfl, Or.inl ⟨rfl, rfl⟩⟩, Below.refl _ _⟩
      case round =>
        obtain ⟨j, hj, rfl, hown, hbw⟩ := hrel
        have HOWN := Lib.hid hown
        clear hown hc0 hc1
        have hsz := hbw.size
        have hj3 : j = 0 ∨ j = 1 ∨ j = 2 := by omega
        rcases hj3 with rfl | rfl | rfl
        · have hc := (hbw.cell (p := ⟨b, 0, none⟩) hb).trans HC0.out
          have HR1 := Lib.hid (H1.out.below hbw)
          clear hj
          go_wp2_with (at_builtin; refine Kit.appRow intInfo rfl (by decide) rfl _ _ 34 rfl Tryz.underlying34 w.heap.size _ _ _ rfl HOWN.out _ _ rfl HR1.out (Kit.one_izs _) ?c1 hsz ?_)
          case c1 => simp [Kit.izs]
          intro v' w4 hown' hb4
          have HO4 := Lib.hid hown'
          clear hown'
          go_wp2_with fail
          go_roundw
          case rel => exact ⟨1, by omega, by first | rfl | go_num, HO4.out, hbw.trans hb4⟩
          case measure => simp [intOf]
        · have hc := (hbw.cell (p := ⟨b, 1, none⟩) hb).trans HC1.out
          have HR1 := Lib.hid (H2.out.below hbw)
          clear hj
          go_wp2_with (at_builtin; refine Kit.appRow intInfo rfl (by decide) rfl _ _ 34 rfl Tryz.underlying34 w.heap.size _ _ _ rfl HOWN.out _ _ rfl HR1.out (Kit.one_izs _) ?c2 hsz ?_)
          case c2 => simp [Kit.izs]
          intro v' w4 hown' hb4
          have HO4 := Lib.hid hown'
          clear hown'
          go_wp2_with fail
          go_roundw
          case rel => exact ⟨2, by omega, by first | rfl | go_num, HO4.out, hbw.trans hb4⟩
          case measure => simp [intOf]
        · go_wp2_with fail
          go_ret
          exact ⟨_, rfl, HOWN.out, hbw⟩
/-- slices.Concat of two slices of ints. -/
theorem concat2_any (b : Nat) (v1 v2 : Value) (xs ys : List Int) (w : World) (hb : b < w.heap.size) (hc0 : w.cell? ⟨b, 0, none⟩ = some v1) (hc1 : w.cell? ⟨b, 1, none⟩ = some v2)
    (h1 : Kit.RowS w v1 (Kit.izs xs)) (h2 : Kit.RowS w v2 (Kit.izs ys)) (hl : xs.length + ys.length ≤ 17592186044416) :
    Calls Tryz.prog 109 #[.slice (some ⟨b, 0, none⟩) 2 2] w fun e w' => ∃ v', e = .returned v' ∧ w'.ownsRow w.heap.size 3 1 v' (xs ++ ys).length (Kit.izs (xs ++ ys)) ∧ Below w.heap.size w w' := by
  rw [List.length_append]
  by_cases hp : 1 ≤ xs.length + ys.length
  · exact concat_any b v1 v2 xs ys w hb hc0 hc1 h1 h2 hl hp
  · have e1 : xs = [] := List.length_eq_zero_iff.1 (by omega)
    have e2 : ys = [] := List.length_eq_zero_iff.1 (by omega)
    subst e1 e2
    obtain ⟨⟨A1, c1, rfl, q1, q2, q3⟩, q4⟩ := h1
    obtain ⟨⟨A2, c2, rfl, r1, r2, r3⟩, r4⟩ := h2
    exact concatE_any b A1 A2 c1 c2 w hb hc0 hc1 ⟨⟨A1, c1, rfl, q1, q2, q3⟩, q4⟩ ⟨⟨A2, c2, rfl, r1, r2, r3⟩, r4⟩
end Go.Proofs.YthkppbimkjmbnaaGreatDoor

/-
  The walk through the closure of Integrity that puts its fields.
-/
namespace Go.Proofs.YthkppbimkjmbnaaGreatDoor
open Go.RowKit
open Vs (bs by_)

set_option maxHeartbeats 12800000 in
set_option maxRecDepth 100000 in
/-- Integrity$1. -/
theorem fillInt_any (w : World) (xb cb1 tb : Nat) (tm u cl fi fo : Int) (cb : Bool) (A A2 : Option Addr) (nf c nf2 c2 : Nat) (tail : ByteArray) (ht : Vs.isTime tm = true) (hu : Vs.fit u 8 = true) (hcl : 0 ≤ cl ∧ cl ≤ 1) (hnf : nf ≤ 8) (htl : tail.size ≤ 200) (hxb : w.heap[xb]? = some (.cells #[.int .i64 tm, .bool cb, .int .i64 u, .slice A nf c, .slice A2 nf2 c2, .int .i64 fi, .int .i64 fo] 71 (0, 0))) (hcb : w.heap[cb1]? = some (.cells #[.int .i64 cl] 3 (0, 0))) (htb : w.heap[tb]? = some (.cells #[.string tail] 9 (0, 0))) :
    Vs.Fills 111 #[.pointer (some ⟨xb, 0, none⟩), .pointer (some ⟨cb1, 0, none⟩), .pointer (some ⟨tb, 0, none⟩)] w (Vs.fillL [(16, Vs.stampR tm ++ Vs.n4 cl), (40, Pm.le 8 u.toNat), (72, Vs.n4 (nf : Int) ++ Vs.n4 46 ++ by_ tail)] []) := by
  refine ⟨enters_of Tryz.func111 (by kernel_rfl) rfl, fun W0 ob hb hob hI => ?_⟩
  obtain ⟨hc0, hc1⟩ := hcl
  have HO := Lib.hid hob
  have HS0 := Lib.hid (show Vs.Fst w W0 W0 ob [] from ⟨hI, hb, Below.refl _ _⟩)
  have HLxb := Lib.hid (show xb < w.heap.size from (Array.getElem?_eq_some_iff.1 hxb).1)
  have HRxb := Lib.hid (fun W (h : Below w.heap.size w W) => (h.block xb HLxb.out).trans hxb)
  have HLcb1 := Lib.hid (show cb1 < w.heap.size from (Array.getElem?_eq_some_iff.1 hcb).1)
  have HRcb1 := Lib.hid (fun W (h : Below w.heap.size w W) => (h.block cb1 HLcb1.out).trans hcb)
  have HLtb := Lib.hid (show tb < w.heap.size from (Array.getElem?_eq_some_iff.1 htb).1)
  have HRtb := Lib.hid (fun W (h : Below w.heap.size w W) => (h.block tb HLtb.out).trans htb)
  have C0 := Lib.hid (fun W => vStamp_any tm W ht)
  have C1 := Lib.hid (fun W => vN4 cl hc0 (by omega) W)
  have C2 := Lib.hid (fun W => vLittle_any u 8 8 rfl (by unfold Pm.Sz; omega) hu W)
  have C3 := Lib.hid (fun W => vN4 (nf : Int) (by omega) (by omega) W)
  have C4 := Lib.hid (fun W => vN4 46 (by decide) (by decide) W)
  have HF0 := Lib.hid (show by_ (bs (Vs.stampR tm) ++ bs (Vs.n4 cl)) = Vs.stampR tm ++ Vs.n4 cl by first | rfl | (simp only [Vs.by_app]; rfl))
  have p0 : (Vs.stampR tm ++ Vs.n4 cl).length = 12 + 4 := by simp only [List.length_append, Vs.stampR_len ht, Vs.n4_len _]
  have HF1 := Lib.hid (show by_ (bs (Pm.le 8 u.toNat)) = Pm.le 8 u.toNat by first | rfl | (simp only [Vs.by_app]; rfl))
  have p1 : (Pm.le 8 u.toNat).length = 8 := by simp only [Pm.le_len _ _]
  have HF2 := Lib.hid (show by_ (bs (Vs.n4 (nf : Int)) ++ bs (Vs.n4 46) ++ tail) = Vs.n4 (nf : Int) ++ Vs.n4 46 ++ by_ tail by first | rfl | (simp only [Vs.by_app]; rfl))
  have p2 : (Vs.n4 (nf : Int) ++ Vs.n4 46 ++ by_ tail).length = 4 + 4 + tail.size := by simp only [List.length_append, Vs.n4_len _, Vs.by_len _]
  have z0 : (bs (Vs.stampR tm)).size ≤ 12 := by rw [Vs.bs_size, Vs.stampR_len ht]; exact Nat.le_refl _
  have z1 : (bs (Vs.n4 cl)).size ≤ 4 := by rw [Vs.bs_size, Vs.n4_len _]; exact Nat.le_refl _
  have z2 : (bs (Pm.le 8 u.toNat)).size ≤ 8 := by rw [Vs.bs_size, Pm.le_len _ _]; exact Nat.le_refl _
  have z3 : (bs (Vs.n4 (nf : Int))).size ≤ 4 := by rw [Vs.bs_size, Vs.n4_len _]; exact Nat.le_refl _
  have z4 : (bs (Vs.n4 46)).size ≤ 4 := by rw [Vs.bs_size, Vs.n4_len _]; exact Nat.le_refl _
  generalize bs (Vs.stampR tm) = r0 at *
  generalize bs (Vs.n4 cl) = r1 at *
  generalize bs (Pm.le 8 u.toNat) = r2 at *
  generalize bs (Vs.n4 (nf : Int)) = r3 at *
  generalize bs (Vs.n4 46) = r4 at *
  generalize Vs.n4 (nf : Int) ++ Vs.n4 46 ++ by_ tail = P2 at *
  generalize Vs.stampR tm ++ Vs.n4 cl = P0 at *
  generalize Pm.le 8 u.toNat = P1 at *
  obtain ⟨L0, hL0⟩ : ∃ L, L = ([] : List UInt8) ++ Vs.z (16 - ([] : List UInt8).length) ++ P0 := ⟨_, rfl⟩
  have l0 : L0.length = 16 + P0.length := by rw [hL0]; simp only [List.length_append, List.length_nil, Vs.z_len] <;> omega
  obtain ⟨L1, hL1⟩ : ∃ L, L = L0 ++ Vs.z (40 - L0.length) ++ P1 := ⟨_, rfl⟩
  have l1 : L1.length = 40 + P1.length := by rw [hL1]; simp only [List.length_append, Vs.z_len] <;> omega
  obtain ⟨L2, hL2⟩ : ∃ L, L = L1 ++ Vs.z (72 - L1.length) ++ P2 := ⟨_, rfl⟩
  have l2 : L2.length = 72 + P2.length := by rw [hL2]; simp only [List.length_append, Vs.z_len] <;> omega
  have HLL := Lib.hid (show Vs.fillL [(16, P0), (40, P1), (72, P2)] [] = L2 by simp only [hL0, hL1, hL2]; rfl)
  have HL0 := Lib.hid hL0.symm
  have HL1 := Lib.hid hL1.symm
  have HL2 := Lib.hid hL2.symm
  clear hb hI hob hxb hcb htb hL0 hL1 hL2
  rw [HLL.out]
  unfold Vs.putV
  show Calls _ _ #[_, _, _, _] _ _
  go_enter Tryz.func111, Tryz.ntmps111
  have cxb_0 := cell_of_row _ _ 0 _ _ _ (HRxb.out _ HS0.out.bel0)
  have ccb1_0 := cell_of_row _ _ 0 _ _ _ (HRcb1.out _ HS0.out.bel0)
  simp only [List.getElem?_toArray, List.getElem?_cons_zero] at cxb_0 ccb1_0
  have yxb_0 := fun x : Later W0.heap.size W0 => later_cell x (Nat.lt_of_lt_of_le HLxb.out HS0.out.bel0.size) cxb_0
  have ycb1_0 := fun x : Later W0.heap.size W0 => later_cell x (Nat.lt_of_lt_of_le HLcb1.out HS0.out.bel0.size) ccb1_0
  go_wp2_with fail
  refine Rt.tail (C := fun w' => ∃ x : Later W0.heap.size W0, w' = x.to) 7 _ rfl (by kernel_rfl) (by kernel_rfl) (by kernel_rfl) rfl (by kernel_rfl) ⟨⟨W0.drewN 1, Kit.below_drewN 1⟩, rfl⟩ ?_
  simp only [List.take_succ_cons, List.take_zero]
  repeat (any_goals (first | go_big_quiet_skip | (go_big_quiet_want; go_big_quiet_op; first | go_big_quiet_on | (apply Exists.intro; refine ⟨fun _ => ?_, ?_⟩; (first | (with_reducible refine Calls.later_of ?_ (C0.out _); exact Nat.le_refl _) | (with_reducible refine Calls.later_of ?_ (C1.out _); exact Nat.le_refl _)); go_big_quiet_on))))
  refine wpQuiet_nil ?_
  intro wq0 hw'
  obtain ⟨⟨wz, hbq⟩, hw''⟩ := hw'
  subst hw''
  have HQ0 := Lib.hid (HS0.out.below hbq)
  clear hbq cxb_0 ccb1_0 yxb_0 ycb1_0
  go_wp2_with fail
  refine (put_any ob 16 16 rfl _ [] _ HQ0.out.img (by decide) (by simp) (by simp only [ByteArray.size_append]; omega)).mono ?_
  rintro e wp0 ⟨rfl, hi, hbp⟩
  rw [HF0.out, HL0.out] at hi
  have HP0 := Lib.hid (HQ0.out.put HO.out hi hbp)
  clear hi hbp
  have cxb_2 := cell_of_row _ _ 2 _ _ _ (HRxb.out _ HP0.out.bel0)
  simp only [List.getElem?_toArray, List.getElem?_cons_zero, List.getElem?_cons_succ] at cxb_2
  go_wp2_with fail
  with_reducible refine (C2.out _).mono ?_
  rintro e wa1_0 ⟨rfl, hbq⟩
  have HA1_0 := Lib.hid (HP0.out.below hbq)
  clear hbq cxb_2
  go_wp2_with fail
  refine (put_any ob 40 40 rfl _ L0 _ HA1_0.out.img (by decide) (by omega) (by omega)).mono ?_
  rintro e wp1 ⟨rfl, hi, hbp⟩
  rw [HF1.out, HL1.out] at hi
  have HP1 := Lib.hid (HA1_0.out.put HO.out hi hbp)
  clear hi hbp
  have cxb_3 := cell_of_row _ _ 3 _ _ _ (HRxb.out _ HP1.out.bel0)
  have ctb_0 := cell_of_row _ _ 0 _ _ _ (HRtb.out _ HP1.out.bel0)
  simp only [List.getElem?_toArray, List.getElem?_cons_zero, List.getElem?_cons_succ] at cxb_3 ctb_0
  have yxb_3 := fun x : Later wp1.heap.size wp1 => later_cell x (Nat.lt_of_lt_of_le HLxb.out HP1.out.bel0.size) cxb_3
  have ytb_0 := fun x : Later wp1.heap.size wp1 => later_cell x (Nat.lt_of_lt_of_le HLtb.out HP1.out.bel0.size) ctb_0
  go_wp2_with fail
  refine Rt.tail (C := fun w' => ∃ x : Later wp1.heap.size wp1, w' = x.to) 9 _ rfl (by kernel_rfl) (by kernel_rfl) (by kernel_rfl) rfl (by kernel_rfl) ⟨⟨wp1.drewN 1, Kit.below_drewN 1⟩, rfl⟩ ?_
  simp only [List.take_succ_cons, List.take_zero]
  repeat (any_goals (first | go_big_quiet_skip | (go_big_quiet_want; go_big_quiet_op; first | go_big_quiet_on | (apply Exists.intro; refine ⟨fun _ => ?_, ?_⟩; (first | (with_reducible refine Calls.later_of ?_ (C3.out _); exact Nat.le_refl _) | (with_reducible refine Calls.later_of ?_ (C4.out _); exact Nat.le_refl _)); go_big_quiet_on))))
  refine wpQuiet_nil ?_
  intro wq2 hw'
  obtain ⟨⟨wz, hbq⟩, hw''⟩ := hw'
  subst hw''
  have HQ2 := Lib.hid (HP1.out.below hbq)
  clear hbq cxb_3 ctb_0 yxb_3 ytb_0
  go_wp2_with fail
  refine (put_any ob 72 72 rfl _ L1 _ HQ2.out.img (by decide) (by omega) (by simp only [ByteArray.size_append]; omega)).mono ?_
  rintro e wp2 ⟨rfl, hi, hbp⟩
  rw [HF2.out, HL2.out] at hi
  have HP2 := Lib.hid (HQ2.out.put HO.out hi hbp)
  clear hi hbp
  go_wp2_with fail
  go_end0
  exact ⟨rfl, HP2.out.img, HP2.out.bel⟩
end Go.Proofs.YthkppbimkjmbnaaGreatDoor

/-
  The walk through volumeseq.Integrity.
-/
namespace Go.Proofs.YthkppbimkjmbnaaGreatDoor
set_option linter.unusedVariables false
open Go.RowKit
open Vs (bs by_)
namespace Vs
theorem body_skip (M : List UInt8) : bodyL (z 16 ++ M) M.length = M := by
  unfold bodyL sl
  rw [List.append_assoc, List.drop_left' (z_len 16), List.take_left' rfl]
theorem body_in (i : In) (ht : (stampR i.time).length = 12) (hl : i.free.length = i.size.length) :
    bodyL (fillL [(16, stampR i.time ++ n4 (if i.closed = true then 1 else 0)), (40, Pm.le 8 i.unique.toNat), (72, n4 (i.free.length : Int) ++ n4 46 ++ tailI i)] []) (64 + (tailI i).length) = inL i := by
  have e : fillL [(16, stampR i.time ++ n4 (if i.closed = true then 1 else 0)), (40, Pm.le 8 i.unique.toNat), (72, n4 (i.free.length : Int) ++ n4 46 ++ tailI i)] [] = z 16 ++ inL i := by
    simp only [fillL, List.length_nil, List.nil_append, List.length_append, z_len, ht, n4_len, Pm.le_len]
    unfold inL
    simp only [List.append_assoc]
    try rfl
  have hlen : 64 + (tailI i).length = (inL i).length := by rw [(in_at i ht hl).1, tailI_len]; omega
  rw [e, hlen]
  exact body_skip _
end Vs

set_option maxHeartbeats 12800000 in
set_option maxRecDepth 100000 in
/-- Integrity. -/
theorem vIntegrity_any (i : Vs.In) (vf vz : Value) (loc : Int) (w : World) (hf : Kit.RowS w vf (Kit.izs i.free)) (hz : Kit.RowS w vz (Kit.izs i.size)) (hlf : i.free.length ≤ 1000) (hlz : i.size.length ≤ 1000) :
    Calls Tryz.prog 36 #[.agg (Vs.inC i vf vz), .int .i64 loc] w fun e w' => e = .returned (.tuple #[.string (bs (Vs.integR i loc).1), .int .i64 (Vs.integR i loc).2]) ∧ Below w.heap.size w w' := by
  have HR := Lib.hid (show Vs.integR i loc = if Vs.word loc = true then (if Vs.okIn i = true then (Vs.blk 9 1 loc.toNat (Vs.inL i), 0) else ([], 1)) else ([], 2) from rfl)
  have CW := Lib.hid (fun W => word_any loc W)
  have CI := Lib.hid (fun W h1 h2 => information_any i vf vz W h1 h2 (by omega) (by omega))
  have HF := Lib.hid hf
  have HZ := Lib.hid hz
  have HB1 := Lib.hid ((Below.refl w.heap.size w).alloc (Nat.le_refl _) (.cells (Vs.inC i vf vz) 71))
  have HN1 := Lib.hid (heap_alloc_new w (.cells (Vs.inC i vf vz) 71))
  have HLD := Lib.hid (show ∀ W : World, W.heap[w.heap.size]? = some (.cells (Vs.inC i vf vz) 71 (0, 0)) → (loadVar 71 ⟨w.heap.size, 0, none⟩).run Tryz.prog W = .ok (.agg (Vs.inC i vf vz)) W from fun W h => load_row (P := Tryz.prog) (n := 7) (cs := [.int .i64 i.time, .bool i.closed, .int .i64 i.unique, vf, vz, .int .i64 i.files, .int .i64 i.folders]) 71 _ h Tryz.underlying71 rfl (by kernel_rfl) (show 0 + 7 ≤ 7 by decide))
  obtain ⟨Z, hZ⟩ : ∃ Z, Z = Vs.inC i vf vz := ⟨_, rfl⟩
  have HZD := Lib.hid hZ
  rw [← hZ] at CI HB1 HN1 HLD ⊢
  clear hZ hf hz
  cases hwl : Vs.word loc with
  | false =>
    rw [hwl] at CW
    have HR2 := Lib.hid (HR.out.trans (if_neg (by rw [hwl]; decide)))
    rw [HR2.out]
    clear HR HR2 hwl
    go_enter Tryz.func36, Tryz.ntmps36
    go_wp2_with (with_reducible refine (CW.out _).mono ?_; rintro e wx ⟨rfl, hw⟩; subst hw)
    go_ret2
    exact ⟨rfl, HB1.out⟩
  | true =>
  rw [hwl] at CW
  have HR1 := Lib.hid (HR.out.trans (if_pos hwl))
  cases hok : Vs.okIn i with
  | false =>
    rw [hok] at CI
    have HR2 := Lib.hid (HR1.out.trans (if_neg (by rw [hok]; decide)))
    rw [HR2.out]
    clear HR HR1 HR2 hwl hok
    go_enter Tryz.func36, Tryz.ntmps36
    go_wp2_with (first | (with_reducible refine (CW.out _).mono ?_; rintro e wx ⟨rfl, hw⟩; subst hw) | (refine wpList_load_at 71 _ rfl w.heap.size 0 rfl _ (HLD.out _ HN1.out) (by rfl) ?_))
    with_reducible refine (CI.out _ (HF.out.below HB1.out) (HZ.out.below HB1.out)).mono ?_
    rintro e w2 ⟨rfl, hb2⟩
    have HB2 := Lib.hid (HB1.out.trans (hb2.mono HB1.out.size))
    clear hb2
    go_wp2_with fail
    go_ret2
    exact ⟨rfl, HB2.out⟩
  | true =>
  rw [hok] at CI
  have HR2 := Lib.hid (HR1.out.trans (if_pos hok))
  obtain ⟨k1, k2, k3, k4, k5, k6, k7, k8⟩ := (Vs.okIn_iff i).1 hok
  obtain ⟨k61, k62⟩ := (Vs.word_iff _).1 k6
  obtain ⟨k71, k72⟩ := (Vs.word_iff _).1 k7
  obtain ⟨k81, k82⟩ := (Vs.word_iff _).1 k8
  obtain ⟨kw1, kw2⟩ := (Vs.word_iff loc).1 hwl
  obtain ⟨N, rfl⟩ := Int.eq_ofNat_of_zero_le kw1
  rw [HR2.out, Int.toNat_natCast]
  have hst := Vs.stampR_len k1
  have hil := Vs.in_len hok
  have HBI := Lib.hid (Vs.body_in i hst k2)
  have htl : (Vs.tailI i).length = 4 * (i.free.length + i.size.length) + 46 := Vs.tailI_len i
  have HFI := Lib.hid (fun W xb cb1 tb A c A2 c2 h1 h2 h3 => fillInt_any W xb cb1 tb i.time i.unique (if i.closed = true then 1 else 0) i.files i.folders i.closed A A2 i.free.length c i.size.length c2 (bs (Vs.tailI i)) k1 ((Vs.fit_iff _ 8).2 ⟨by omega, by (have h : i.unique < 18446744073709551616 := by omega); simpa using h⟩) (by split <;> omega) k3 (by rw [Vs.bs_size]; omega) h1 h2 h3)
  have CB := Lib.hid (fun W => block_any 9 1 (N : Int) (bs (Vs.inL i)) W (by rw [Vs.bs_size]; omega))
  have HBB := Lib.hid (show Vs.blockR 9 1 (N : Int) (Vs.inL i) = (Vs.blk 9 1 N (Vs.inL i), 0) from Vs.blockR_ok (id := 9) (ser := 1) (by decide) (by decide) (by omega) (by omega))
  rw [Vs.by_bs, HBB.out] at CB
  simp only [] at CB
  have HWL := Lib.hid (show ∀ x ∈ i.free ++ i.size, 0 ≤ x ∧ x < 4294967296 from fun x hx => by
    rcases List.mem_append.1 hx with h | h
    · exact (Vs.word_iff x).1 (k4 x h)
    · exact (Vs.word_iff x).1 (k5 x h))
  have C4 := Lib.hid (fun W n h0 h1 => vN4 n h0 h1 W)
  have CFi := Lib.hid (fun W => vN4 i.files k61 k62 W)
  have CFo := Lib.hid (fun W => vN4 i.folders k71 k72 W)
  have C2 := Lib.hid (fun W => vN2 513 (by decide) (by decide) W)
  have CIm := Lib.hid (fun W => vImpl W)
  have CRp := Lib.hid (fun W => Tryz.strings_Repeat (bs (Vs.n2 513)) 3 W (by decide) (by rw [Vs.bs_size, Vs.n2_len]; decide))
  have hrp : (⟨(Lib.repeatL (bs (Vs.n2 513)).data.toList 3).toArray⟩ : ByteArray) = bs (Vs.n2 513 ++ (Vs.n2 513 ++ Vs.n2 513)) := by
    show bs (Lib.repeatL (Vs.n2 513) 3) = _
    refine congrArg bs ?_
    simp [Lib.repeatL]
  rw [hrp] at CRp
  have HTL := Lib.hid (show bs (Vs.w4 (i.free ++ i.size)) ++ (bs Vs.implL ++ bs (Vs.n4 i.files) ++ bs (Vs.n4 i.folders) ++ bs (Vs.n2 513 ++ (Vs.n2 513 ++ Vs.n2 513))) = bs (Vs.tailI i) by
    simp only [Vs.bs_app]
    refine congrArg bs ?_
    unfold Vs.tailI
    simp only [List.append_assoc])
  have HWS := Lib.hid (fun (k : Nat) (hk : k < (i.free ++ i.size).length) => show bs (Vs.w4 ((i.free ++ i.size).take k)) ++ bs (Vs.n4 ((i.free ++ i.size).getD k 0)) = bs (Vs.w4 ((i.free ++ i.size).take (k + 1))) by
    rw [Vs.bs_app, ← Vs.w4_snoc, List.take_add_one, List.getD_eq_getElem?_getD, List.getElem?_eq_getElem hk]
    rfl)
  have hz1 : ∀ k, (bs (Vs.w4 ((i.free ++ i.size).take k))).size ≤ 64 := fun k => by rw [Vs.bs_size, Vs.w4_len, List.length_take, List.length_append]; omega
  have HZ1 := Lib.hid hz1
  have HZ2 := Lib.hid (fun n => show (bs (Vs.n4 n)).size ≤ 4 by rw [Vs.bs_size, Vs.n4_len]; decide)
  have HZ3 := Lib.hid (show (bs Vs.implL).size ≤ 32 by rw [Vs.bs_size, Vs.impl_len]; decide)
  have HZ4 := Lib.hid (show (bs (Vs.n2 513 ++ (Vs.n2 513 ++ Vs.n2 513))).size ≤ 6 by rw [Vs.bs_size]; decide)
  have hLl : (i.free ++ i.size).length ≤ 16 := by rw [List.length_append]; omega
  have HLL := Lib.hid hLl
  have htb : (bs (Vs.tailI i)).size = (Vs.tailI i).length := Vs.bs_size _
  have HTB := Lib.hid (show (bs (Vs.tailI i)).size ≤ 120 ∧ (bs (Vs.tailI i)).size = (Vs.tailI i).length by rw [htb]; omega)
  have CC := Lib.hid (fun W b hb hc0 hc1 h1 h2 => concat2_any b vf vz i.free i.size W hb hc0 hc1 h1 h2 (by omega))
  obtain ⟨⟨Af, cf, rfl, hcf, hmf, _⟩, _⟩ := HF.out
  obtain ⟨⟨Az, cz, rfl, hcz, hmz, _⟩, _⟩ := HZ.out
  simp only [Kit.izs_length] at *
  clear HR HR1 HR2 hwl hok k1 k2 k3 k4 k5 k6 k7 k8 k61 k62 k71 k72 k81 k82 kw1 hst hil htl HBB hrp hz1 hLl htb hcf hmf hcz hmz hlf hlz
  have HBI2 := Lib.hid (congrArg bs HBI.out)
  obtain ⟨tm, cl, u, fr, sz, fi, fo⟩ := i
  simp only [] at *
  generalize Vs.tailI ⟨tm, cl, u, fr, sz, fi, fo⟩ = TL at *
  generalize Vs.inL ⟨tm, cl, u, fr, sz, fi, fo⟩ = IL at *
  unfold Vs.inC at *
  go_enter Tryz.func36, Tryz.ntmps36
  go_wp2_with (first | (with_reducible refine (CW.out _).mono ?_; rintro e wx ⟨rfl, hw⟩; subst hw) | (refine wpList_load_at 71 _ rfl w.heap.size 0 rfl _ (HLD.out _ HN1.out) (by rfl) ?_))
  with_reducible refine (CI.out _ (HF.out.below HB1.out) (HZ.out.below HB1.out)).mono ?_
  rintro e w2 ⟨rfl, hb2⟩
  have HB2 := Lib.hid (HB1.out.trans (hb2.mono HB1.out.size))
  have HN2 := Lib.hid ((hb2.block w.heap.size (Array.getElem?_eq_some_iff.1 HN1.out).1).trans HN1.out)
  clear hb2 HB1 HN1 CW CI HLD
  rw [HZD.out] at HN2
  clear HZD
  have HG := Lib.hid (heap_alloc_new w2 (.cells #[.int .i64 0] 3))
  have hba := (Below.refl w2.heap.size w2).alloc (Nat.le_refl _) (.cells #[.int .i64 0] 3)
  have HB3 := Lib.hid (HB2.out.trans (hba.mono HB2.out.size))
  have HN3 := Lib.hid ((hba.block w.heap.size (Array.getElem?_eq_some_iff.1 HN2.out).1).trans HN2.out)
  have hlw2 := (Array.getElem?_eq_some_iff.1 HN2.out).1
  clear hba HN2
  go_upto_region 6 with fail
  generalize w2.alloc (.cells #[.int .i64 0] 3) = w3 at *
  have HG6 := Lib.hid (show w.heap.size < w2.heap.size from hlw2)
  clear hlw2
  generalize w2.heap.size = g6 at *
  clear HB2
  have c1 := cell_of_row _ _ 1 _ _ _ HN3.out
  simp only [List.getElem?_toArray, List.getElem?_cons_zero, List.getElem?_cons_succ] at c1
  go_upto_if 19 with fail
  go_cut [6] (fun s6 wx => s6 = .pointer (some ⟨g6, 0, none⟩) ∧ Hid (wx.heap[g6]? = some (.cells #[.int .i64 (if cl = true then 1 else 0)] 3 (0, 0))) ∧ Hid (Below w.heap.size w wx) ∧ Hid (wx.heap[w.heap.size]? = some (.cells #[.int .i64 tm, .bool cl, .int .i64 u, .slice Af fr.length cf, .slice Az sz.length cz, .int .i64 fi, .int .i64 fo] 71 (0, 0))))
  case first =>
    cases cl with
    | false =>
      go_wp2_with fail
      go_meet
      exact ⟨rfl, HG, HB3, HN3⟩
    | true =>
      have z0 := cell_of_row _ _ 0 _ _ _ HG.out
      simp only [List.getElem?_toArray, List.getElem?_cons_zero] at z0
      have hfj := fun j => frozen_of_row _ _ j _ _ HG.out
      go_wp2_with fail
      go_meet
      exact ⟨rfl, Lib.hid (heap_setCell_same _ _ 0 _ _ _ HG.out), Lib.hid (HB3.out.setCell (p := ⟨g6, 0, none⟩) (Nat.le_of_lt HG6.out) _), Lib.hid ((heap_setCell_other _ _ _ _ (by have := HG6.out; simp; omega)).trans HN3.out)⟩
  case rest =>
    obtain ⟨rfl, HG, HB, HN⟩ := hcut
    clear HB3 HN3 c1
    have hlt6 := (Array.getElem?_eq_some_iff.1 HG.out).1
    generalize (if cl = true then (1 : Int) else 0) = ci at *
    have HS := Lib.hid (heap_alloc_new wc (.cells #[.string ⟨#[]⟩] 9))
    have hba := (Below.refl wc.heap.size wc).alloc (Nat.le_refl _) (.cells #[.string ⟨#[]⟩] 9)
    have HB4 := Lib.hid (HB.out.trans (hba.mono HB.out.size))
    have HN4 := Lib.hid ((hba.block w.heap.size (Array.getElem?_eq_some_iff.1 HN.out).1).trans HN.out)
    have HG4 := Lib.hid ((hba.block g6 hlt6).trans HG.out)
    have HG7 := Lib.hid (show w.heap.size < wc.heap.size ∧ g6 < wc.heap.size from ⟨(Array.getElem?_eq_some_iff.1 HN.out).1, hlt6⟩)
    clear hba HG HB HN hlt6
    go_upto_region 9 with fail
    generalize wc.alloc (.cells #[.string ⟨#[]⟩] 9) = w4 at *
    generalize wc.heap.size = g7 at *
    have c3 := cell_of_row _ _ 3 _ _ _ HN4.out
    have c4 := cell_of_row _ _ 4 _ _ _ HN4.out
    simp only [List.getElem?_toArray, List.getElem?_cons_zero, List.getElem?_cons_succ] at c3 c4
    go_wp2_with fail
    have HN5 := Lib.hid (heap_alloc_new w4 (.cells #[.slice Af fr.length cf, .slice Az sz.length cz] 34))
    have hba := (Below.refl w4.heap.size w4).alloc (Nat.le_refl _) (.cells #[.slice Af fr.length cf, .slice Az sz.length cz] 34)
    have HB5 := Lib.hid (HB4.out.trans (hba.mono HB4.out.size))
    have HQ5 := Lib.hid ((hba.block w.heap.size (Array.getElem?_eq_some_iff.1 HN4.out).1).trans HN4.out)
    have HG5 := Lib.hid ((hba.block g6 (Array.getElem?_eq_some_iff.1 HG4.out).1).trans HG4.out)
    have HS5 := Lib.hid ((hba.block g7 (Array.getElem?_eq_some_iff.1 HS.out).1).trans HS.out)
    clear hba c3 c4 HB4 HN4 HG4 HS
    generalize w4.alloc (.cells #[.slice Af fr.length cf, .slice Az sz.length cz] 34) = w5 at *
    generalize w4.heap.size = g4 at *
    have d0 := cell_of_row _ _ 0 _ _ _ HN5.out
    have d1 := cell_of_row _ _ 1 _ _ _ HN5.out
    simp only [List.getElem?_toArray, List.getElem?_cons_zero, List.getElem?_cons_succ] at d0 d1
    have hl5 := (Array.getElem?_eq_some_iff.1 HN5.out).1
    with_reducible refine (CC.out w5 g4 hl5 d0 d1 (HF.out.below HB5.out) (HZ.out.below HB5.out)).mono ?_
    rintro e w6 ⟨v6, rfl, ho6, hb6⟩
    have HB6 := Lib.hid (HB5.out.trans (hb6.mono HB5.out.size))
    have HQ6 := Lib.hid ((hb6.block w.heap.size (Array.getElem?_eq_some_iff.1 HQ5.out).1).trans HQ5.out)
    have HG6' := Lib.hid ((hb6.block g6 (Array.getElem?_eq_some_iff.1 HG5.out).1).trans HG5.out)
    have HS6 := Lib.hid ((hb6.block g7 (Array.getElem?_eq_some_iff.1 HS5.out).1).trans HS5.out)
    have hs7 := (Array.getElem?_eq_some_iff.1 HS5.out).1
    clear d0 d1 hl5 HN5 HB5 HQ5 HG5 HS5 CC HF HZ hb6
    obtain ⟨A, c, g, rfl, hA, hcl⟩ : ∃ (A : Option Addr) (c g : Nat), v6 = .slice A (fr ++ sz).length c ∧ (0 < (fr ++ sz).length → A = some ⟨g, 0, none⟩ ∧ g ≠ g7) ∧ (∀ j u, (Kit.izs (fr ++ sz))[j]? = some u → w6.cell? ⟨g, j, none⟩ = some u) := by
      obtain ⟨A, c, hv, _, _, hx⟩ := Kit.Row.of_own ho6
      rw [Kit.izs_length] at hv hx
      by_cases h0 : 0 < (fr ++ sz).length
      · obtain ⟨b, o, rfl, _, hx2⟩ := hx h0
        rcases ho6.2 with ⟨hn, _⟩ | ⟨g, cap, cur, hv2, hge, _⟩
        · rw [hn] at hv; cases hv
        · rw [hv] at hv2
          obtain ⟨⟨rfl, rfl⟩, -⟩ : (b = g ∧ o = 0) ∧ _ := by simpa using hv2
          exact ⟨_, c, b, hv, fun _ => ⟨rfl, by omega⟩, fun j u hu => by have := hx2 j u hu; rwa [Nat.zero_add] at this⟩
      · refine ⟨A, c, 0, hv, fun h => absurd h h0, fun j u hu => ?_⟩
        have hj := (List.getElem?_eq_some_iff.1 hu).1
        rw [Kit.izs_length] at hj
        omega
    have HA := Lib.hid hA
    have HCL := Lib.hid hcl
    clear ho6 hs7 hA hcl
    generalize fr ++ sz = L at *
    have hll := HLL.out
    go_wp2_with fail
    go_loopw [9, 27] (fun _ iv wr => ∃ k : Nat, k ≤ L.length ∧ iv = .int .i64 k ∧ Hid (wr.heap[g7]? = some (.cells #[.string (bs (Vs.w4 (L.take k)))] 9 (0, 0))) ∧ Hid (Below w.heap.size w wr) ∧ Hid (wr.heap[w.heap.size]? = some (.cells #[.int .i64 tm, .bool cl, .int .i64 u, .slice Af fr.length cf, .slice Az sz.length cz, .int .i64 fi, .int .i64 fo] 71 (0, 0))) ∧ Hid (wr.heap[g6]? = some (.cells #[.int .i64 ci] 3 (0, 0))) ∧ Hid (∀ j u, (Kit.izs L)[j]? = some u → wr.cell? ⟨g, j, none⟩ = some u)) (fun _ iv _ => L.length - (intOf iv).toNat)
    case atStart => exact ⟨0, by omega, rfl, HS6, HB6, HQ6, HG6', HCL⟩
    case round =>
      clear HS6 HB6 HQ6 HG6' HCL
      obtain ⟨k, hk, rfl, HS, HB, HQ, HG, HCL⟩ := hrel
      by_cases hlt : k < L.length
      · obtain ⟨rfl, hgne⟩ := HA.out (by omega)
        have HGN := Lib.hid hgne
        have hx : (Kit.izs L)[k]? = some (.int .i64 (L.getD k 0)) := by simp [Kit.izs, List.getD, hlt]
        have ck := HCL.out k _ hx
        have hxm : L.getD k 0 ∈ L := by rw [List.getD_eq_getElem?_getD, List.getElem?_eq_getElem hlt]; exact List.getElem_mem hlt
        obtain ⟨hx0, hx1⟩ := HWL.out _ hxm
        have CX := Lib.hid (fun W => C4.out W (L.getD k 0) hx0 hx1)
        have HW := Lib.hid (HWS.out k hlt)
        have zA := HZ1.out k
        have zB := HZ2.out (L.getD k 0)
        clear hx hxm hx0 hx1 hgne
        generalize bs (Vs.w4 (L.take k)) = acc at *
        generalize bs (Vs.n4 (L.getD k 0)) = r4 at *
        generalize L.getD k 0 = x at *
        have c7 := cell_of_row _ _ 0 _ _ _ HS.out
        simp only [List.getElem?_toArray, List.getElem?_cons_zero] at c7
        have hl7 := (Array.getElem?_eq_some_iff.1 HS.out).1
        have y7 := fun x : Later wr.heap.size wr => later_cell x hl7 c7
        go_wp2_with fail
        refine Rt.tail (C := fun w' => ∃ x : Later wr.heap.size wr, w' = x.to) 4 _ rfl (by kernel_rfl) (by kernel_rfl) (by kernel_rfl) rfl (by kernel_rfl) ⟨⟨wr.drewN 1, Kit.below_drewN 1⟩, rfl⟩ ?_
        simp only [List.take_succ_cons, List.take_zero]
        repeat (any_goals (first | go_big_quiet_skip | (go_big_quiet_want; go_big_quiet_op; first | go_big_quiet_on | (apply Exists.intro; refine ⟨fun _ => ?_, ?_⟩; (with_reducible refine Calls.later_of ?_ (CX.out _); exact Nat.le_refl _); go_big_quiet_on))))
        refine wpQuiet_nil ?_
        intro wq hw'
        obtain ⟨⟨wz, hbq⟩, hw''⟩ := hw'
        subst hw''
        have HSq := Lib.hid ((hbq.block g7 hl7).trans HS.out)
        have HBq := Lib.hid (HB.out.trans (hbq.mono HB.out.size))
        have HQq := Lib.hid ((hbq.block w.heap.size (Array.getElem?_eq_some_iff.1 HQ.out).1).trans HQ.out)
        have HGq := Lib.hid ((hbq.block g6 (Array.getElem?_eq_some_iff.1 HG.out).1).trans HG.out)
        have HCq := Lib.hid (show ∀ j u, (Kit.izs L)[j]? = some u → wq.cell? ⟨g, j, none⟩ = some u from fun j u hu => (hbq.cell (p := ⟨g, j, none⟩) (World.block_lt_of_cell? _ _ (HCL.out j u hu))).trans (HCL.out j u hu))
        clear hbq y7 c7 hl7 HS HB HQ HG HCL ck
        have z7 := cell_of_row _ _ 0 _ _ _ HSq.out
        simp only [List.getElem?_toArray, List.getElem?_cons_zero] at z7
        have hfj := fun j => frozen_of_row _ _ j _ _ HSq.out
        go_wp2_with fail
        go_roundw
        case rel => exact ⟨k + 1, by omega, by go_num, by rw [← HW.out]; exact Lib.hid (heap_setCell_same _ _ 0 _ _ _ HSq.out), Lib.hid (HBq.out.setCell (p := ⟨g7, 0, none⟩) (Nat.le_of_lt HG7.out.1) _), Lib.hid ((heap_setCell_other _ _ _ _ (by have := HG7.out; simp; omega)).trans HQq.out), Lib.hid ((heap_setCell_other _ _ _ _ (by have := HG7.out; simp; omega)).trans HGq.out), Lib.hid (fun j u hu => (World.cell?_setCell_other _ _ _ _ (fun e => HGN.out (by have := congrArg Addr.block e; exact this.symm))).trans (HCq.out j u hu))⟩
        case measure => simp [intOf]; omega
      · obtain rfl : k = L.length := by omega
        rw [List.take_length] at HS
        have zA : (bs (Vs.w4 L)).size ≤ 64 := by simpa only [List.take_length] using HZ1.out L.length
        have zB := HZ2.out fi
        have zC := HZ2.out fo
        have zD := HZ3.out
        have zE := HZ4.out
        clear HZ1 HZ2 HZ3 HZ4 HCL HWS C4 HA HWL hlt
        generalize bs (Vs.w4 L) = acc at *
        generalize bs (Vs.n4 fi) = r1 at *
        generalize bs (Vs.n4 fo) = r2 at *
        generalize bs Vs.implL = r3 at *
        generalize bs (Vs.n2 513 ++ (Vs.n2 513 ++ Vs.n2 513)) = r5 at *
        have c7 := cell_of_row _ _ 0 _ _ _ HS.out
        have c5 := cell_of_row _ _ 5 _ _ _ HQ.out
        have c6 := cell_of_row _ _ 6 _ _ _ HQ.out
        simp only [List.getElem?_toArray, List.getElem?_cons_zero, List.getElem?_cons_succ] at c7 c5 c6
        have hl7 := (Array.getElem?_eq_some_iff.1 HS.out).1
        have hlq := (Array.getElem?_eq_some_iff.1 HQ.out).1
        have y7 := fun x : Later wr.heap.size wr => later_cell x hl7 c7
        have y5 := fun x : Later wr.heap.size wr => later_cell x hlq c5
        have y6 := fun x : Later wr.heap.size wr => later_cell x hlq c6
        clear c5 c6 c7
        go_upto_region 14 with fail
        refine Rt.tail (C := fun w' => ∃ x : Later wr.heap.size wr, w' = x.to) 14 _ rfl (by kernel_rfl) (by kernel_rfl) (by kernel_rfl) rfl (by kernel_rfl) ⟨⟨wr.drewN 1, Kit.below_drewN 1⟩, rfl⟩ ?_
        simp only [List.take_succ_cons, List.take_zero]
        repeat (any_goals (first | go_big_quiet_skip | (go_big_quiet_want; go_big_quiet_op; first | go_big_quiet_on | (apply Exists.intro; refine ⟨fun _ => ?_, ?_⟩; (first | (with_reducible refine Calls.later_of ?_ (CIm.out _); exact Nat.le_refl _) | (with_reducible refine Calls.later_of ?_ (CFi.out _); exact Nat.le_refl _) | (with_reducible refine Calls.later_of ?_ (CFo.out _); exact Nat.le_refl _) | (with_reducible refine Calls.later_of ?_ (C2.out _); exact Nat.le_refl _) | (with_reducible refine Calls.later_of ?_ (CRp.out _); exact Nat.le_refl _)); go_big_quiet_on))))
        refine wpQuiet_nil ?_
        intro wq hw'
        obtain ⟨⟨wz, hbq⟩, hw''⟩ := hw'
        subst hw''
        have HSq := Lib.hid ((hbq.block g7 hl7).trans HS.out)
        have HBq := Lib.hid (HB.out.trans (hbq.mono HB.out.size))
        have HQq := Lib.hid ((hbq.block w.heap.size (Array.getElem?_eq_some_iff.1 HQ.out).1).trans HQ.out)
        have HGq := Lib.hid ((hbq.block g6 (Array.getElem?_eq_some_iff.1 HG.out).1).trans HG.out)
        clear hbq y7 y5 y6 hl7 hlq HS HB HQ HG zA zB zC zD zE
        have z7 := cell_of_row _ _ 0 _ _ _ HSq.out
        simp only [List.getElem?_toArray, List.getElem?_cons_zero] at z7
        have hfj := fun j => frozen_of_row _ _ j _ _ HSq.out
        have HS8 := Lib.hid (heap_setCell_same wq g7 0 _ _ (Value.string (bs TL)) HSq.out)
        have HB8 := Lib.hid (HBq.out.setCell (p := ⟨g7, 0, none⟩) (Nat.le_of_lt HG7.out.1) (.string (bs TL)))
        have HQ8 := Lib.hid ((heap_setCell_other wq ⟨g7, 0, none⟩ w.heap.size (Value.string (bs TL)) (by have := HG7.out; simp; omega)).trans HQq.out)
        have HG8 := Lib.hid ((heap_setCell_other wq ⟨g7, 0, none⟩ g6 (Value.string (bs TL)) (by have := HG7.out; simp; omega)).trans HGq.out)
        go_upto_region 15 with fail
        rw [HTL.out]
        have z8 := cell_of_row _ _ 0 _ _ _ HS8.out
        simp only [List.getElem?_toArray, List.getElem?_cons_zero, List.setIfInBounds_toArray, List.set_cons_zero] at z8
        generalize wq.setCell ⟨g7, 0, none⟩ (Value.string (bs TL)) = w8 at *
        obtain ⟨ht1, ht2⟩ := HTB.out
        have HF8 := Lib.hid (HFI.out w8 _ _ _ _ _ _ _ HQ8.out HG8.out HS8.out)
        rw [Vs.by_bs] at HF8
        have CBd := Lib.hid (fun M hM => (body_any (64 + TL.length) M hM _ _ _ w8 HF8.out (by rw [← ht2]; omega)).mono fun e w' h => (show e = .returned (.string (bs IL)) ∧ Below w8.heap.size w8 w' from by rw [← HBI2.out]; exact h))
        clear HF8 HFI HBI HBI2 HTL HSq HBq HQq HGq z7 hfj HS8 HQ8 HG8
        go_wp2_with (with_reducible refine (CBd.out _ (by omega)).mono ?_; rintro e w9 ⟨rfl, hb9⟩)
        have HB9 := Lib.hid (HB8.out.trans (hb9.mono HB8.out.size))
        clear hb9
        with_reducible refine (CB.out _).mono ?_
        rintro e w10 ⟨rfl, hb10⟩
        have HB10 := Lib.hid (HB9.out.trans (hb10.mono HB9.out.size))
        clear hb10
        go_wp2_with fail
        go_ret2
        exact ⟨rfl, HB10.out⟩
end Go.Proofs.YthkppbimkjmbnaaGreatDoor

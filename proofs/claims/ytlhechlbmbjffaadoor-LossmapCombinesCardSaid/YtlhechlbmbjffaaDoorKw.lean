/-
  The walk through LossmapCombines.
-/
import Derived.Deep.QuietTactic
import Derived.BigQuiet
import Derived.Test.YtlhechlbmbjffaaDoorKv
namespace Go.Proofs.YtlhechlbmbjffaaDoor
open Go.RowKit
/-- Two images as a slice, just laid. -/
theorem imgs_two (w : World) (v1 v2 : Value) (a b : List ByteArray) (h1 : Lm.Strs w v1 a) (h2 : Lm.Strs w v2 b) : Lm.Imgs (w.alloc (.cells #[v1, v2] 23)) (.slice (some ⟨w.heap.size, 0, none⟩) 2 2) [v1, v2] [a, b] := by
  have hb := (Below.refl w.heap.size w).alloc (Nat.le_refl _) (.cells #[v1, v2] 23)
  refine ⟨⟨some ⟨w.heap.size, 0, none⟩, 2, rfl, Nat.le_refl _, by unfold maxLen; omega, fun _ => ⟨w.heap.size, 0, rfl, by simp, fun j u hu => ?_⟩⟩, rfl, fun i hi => ?_⟩
  · rw [Nat.zero_add]
    exact Lm.newCells w #[v1, v2] 23 j u (by simpa using hu)
  · have hi2 : i < 2 := hi
    rcases (by omega : i = 0 ∨ i = 1) with rfl | rfl
    · exact h1.below hb
    · exact h2.below hb
theorem imgs_one (w : World) (v1 : Value) (a : List ByteArray) (h1 : Lm.Strs w v1 a) : Lm.Imgs (w.alloc (.cells #[v1] 23)) (.slice (some ⟨w.heap.size, 0, none⟩) 1 1) [v1] [a] := by
  have hb := (Below.refl w.heap.size w).alloc (Nat.le_refl _) (.cells #[v1] 23)
  refine ⟨⟨some ⟨w.heap.size, 0, none⟩, 1, rfl, Nat.le_refl _, by unfold maxLen; omega, fun _ => ⟨w.heap.size, 0, rfl, by simp, fun j u hu => ?_⟩⟩, rfl, fun i hi => ?_⟩
  · rw [Nat.zero_add]
    exact Lm.newCells w #[v1] 23 j u (by simpa using hu)
  · have hi2 : i < 1 := hi
    obtain rfl : i = 0 := by omega
    exact h1.below hb
theorem combE_two (a b : List ByteArray) : Lm.combE [a, b] = if Lm.validI a = true ∧ Lm.validI b = true then 0 else 1 := by
  unfold Lm.combE
  rw [List.all_cons, List.all_cons, List.all_nil, Bool.and_true]
  cases Lm.validI a <;> cases Lm.validI b <;> simp
theorem combE_one (a : List ByteArray) : Lm.combE [a] = if Lm.validI a = true then 0 else 1 := by
  unfold Lm.combE
  rw [List.all_cons, List.all_nil, Bool.and_true]
  cases Lm.validI a <;> simp

set_option maxHeartbeats 25600000 in
set_option maxRecDepth 100000 in
/-- LossmapCombines. -/
theorem lawCombines_any (v : Value) (img : List ByteArray) (u : Value) (fs : List Lm.F) (t1 : Value) (ds1 : List Nat) (t2 : Value) (ds2 : List Nat) (w : World) (hm : Kit.RowS w v (Lm.strs img)) (hf : Lm.Files w u fs)
    (hd1 : Kit.Row w t1 (Lm.u16s ds1) ∧ ∀ d ∈ ds1, d < 65536) (hd2 : Kit.Row w t2 (Lm.u16s ds2) ∧ ∀ d ∈ ds2, d < 65536) (hp : Lm.Pow w) :
    Calls Tryd.prog 6 #[v, u, t1, t2] w fun e w' => e = .returned (.bool true) ∧ Below w.heap.size w w' := by
  obtain ⟨hd1, hdb1⟩ := hd1
  obtain ⟨hd2, hdb2⟩ := hd2
  have HMS := Lib.hid hm
  have HF := Lib.hid hf
  have HD1 := Lib.hid hd1
  have HD2 := Lib.hid hd2
  obtain ⟨A, c, rfl, hlc, hcm⟩ := Lm.Strs.shape hm.1
  obtain ⟨B, d, rfl, hld, hdm, _⟩ := hf
  obtain ⟨T1, tc1, rfl, hlt1, htm1, _⟩ := hd1
  obtain ⟨T2, tc2, rfl, hlt2, htm2, _⟩ := hd2
  simp only [Lm.u16s_len] at *
  unfold maxLen at hcm hdm htm1 htm2
  have hb0 : Below w.heap.size w (w.alloc (.cells #[.slice A img.length c] 23)) := (Below.refl _ w).alloc (Nat.le_refl _) _
  have hbx := Lm.newCells w #[.slice A img.length c] 23 0 _ rfl
  have hbs : w.heap.size < (w.alloc (.cells #[.slice A img.length c] 23)).heap.size := by simp
  have CA := Lib.hid (awake_any _ (hp.below hb0 hp.lt))
  have HBX := Lib.hid (fun W (h : Below (w.alloc (.cells #[.slice A img.length c] 23)).heap.size (w.alloc (.cells #[.slice A img.length c] 23)) W) => (h.cell (p := ⟨w.heap.size, 0, none⟩) hbs).trans hbx)
  have HB0 := Lib.hid hb0
  clear hm hp hb0 hbx
  go_enter Tryd.func6, Tryd.ntmps6
  go_wp2_with fail
  generalize hW0 : w.alloc (.cells #[.slice A img.length c] 23) = W0 at *
  clear hW0
  with_reducible refine CA.out.mono ?_
  rintro e w1 ⟨rfl, hb1⟩
  have HB1 := Lib.hid (HB0.out.trans (hb1.mono HB0.out.size))
  have CF := Lib.hid (few_any _ _ img fs w1 (HMS.out.1.below HB1.out) (HF.out.below HB1.out))
  have x1 := HBX.out w1 hb1
  go_wp2_with fail
  with_reducible refine CF.out.mono ?_
  rintro e w2 ⟨bb, rfl, hsm, hb2⟩
  have H02 := Lib.hid (hb1.trans (hb2.mono hb1.size))
  have HB2 := Lib.hid (HB0.out.trans (H02.out.mono HB0.out.size))
  clear hb1 hb2 CA CF x1 HB1
  cases bb with
  | false =>
    go_wp2_with fail
    go_ret
    exact ⟨rfl, HB2.out⟩
  | true =>
  have HS := Lib.hid (hsm rfl)
  clear hsm
  by_cases h1 : 100 < ds1.length
  · have d0 : decide (100 < ds1.length) = true := decide_eq_true h1
    have d1 : decide (100 < (ds1.length : Int)) = true := decide_eq_true (by omega)
    go_wp2_with fail
    go_ret
    exact ⟨rfl, HB2.out⟩
  have d0 : decide (100 < ds1.length) = false := decide_eq_false h1
  have d1 : decide (100 < (ds1.length : Int)) = false := decide_eq_false (by omega)
  by_cases h2 : 100 < ds2.length
  · have d2 : decide (100 < ds2.length) = true := decide_eq_true h2
    have d3 : decide (100 < (ds2.length : Int)) = true := decide_eq_true (by omega)
    go_wp2_with fail
    go_ret
    exact ⟨rfl, HB2.out⟩
  have d2 : decide (100 < ds2.length) = false := decide_eq_false h2
  have d3 : decide (100 < (ds2.length : Int)) = false := decide_eq_false (by omega)
  have hil : img.length ≤ 700 := HS.out.images
  have C1 := Lib.hid (damC_any A c img _ ds1 w.heap.size w2 (HBX.out w2 H02.out) (HMS.out.below HB2.out) (by omega) (HD1.out.below HB2.out) hdb1)
  go_wp2_with fail
  with_reducible refine C1.out.mono ?_
  rintro e w3 ⟨r10, rfl, hO3, hb3⟩
  have H03 := Lib.hid (H02.out.trans (hb3.mono H02.out.size))
  have HB3 := Lib.hid (HB2.out.trans (hb3.mono HB2.out.size))
  have C2 := Lib.hid (damC_any A c img _ ds2 w.heap.size w3 (HBX.out w3 H03.out) (HMS.out.below HB3.out) (by omega) (HD2.out.below HB3.out) hdb2)
  have HLA := Lib.hid (Lm.dmg_len ds1 img)
  have HLB := Lib.hid (Lm.dmg_len ds2 img)
  have HWA := Lib.hid (Lm.dmg_worse img ds1 img (Lm.Worse.refl img))
  have HWB := Lib.hid (Lm.dmg_worse img ds2 img (Lm.Worse.refl img))
  generalize Lm.dmg img ds1 = a at *
  generalize Lm.dmg img ds2 = b at *
  obtain ⟨A10, c10, rfl, hg10⟩ := Lm.OwnB.shape hO3
  have HO3 := Lib.hid hO3
  clear C1 hO3 hb3 d0 d1 d2 d3 h1 h2 H02 HB2
  go_wp2_with fail
  with_reducible refine C2.out.mono ?_
  rintro e w4 ⟨r11, rfl, hO4, hb4⟩
  obtain ⟨A11, c11, rfl, hg11⟩ := Lm.OwnB.shape hO4
  have HO4 := Lib.hid hO4
  have HO34 := Lib.hid (HO3.out.kept (Kit.grown_of_below hb4) (by cases Value.ownBlock _ <;> simp))
  have H04 := Lib.hid (H03.out.trans (hb4.mono H03.out.size))
  have HBA := Lib.hid (show Below w4.heap.size w4 (w4.alloc (.cells #[.slice A10 a.length c10, .slice A11 b.length c11] 23)) from (Below.refl _ w4).alloc (Nat.le_refl _) _)
  have hcc := combine_any _ _ _ _ (imgs_two w4 _ _ a b (Lm.OwnB.strs HO34.out) (Lm.OwnB.strs HO4.out))
  clear C2 hO4 hb4 HO3 H03 HB3
  have HCB := Lib.hid (Lm.comb_mk (a := a) (b := b) (by rw [HLA.out, HLB.out]))
  have HB4 := Lib.hid (HB0.out.trans (H04.out.mono HB0.out.size))
  by_cases hv : Lm.validI a = true ∧ Lm.validI b = true
  · rw [(combE_two a b).trans (if_pos hv), if_pos rfl, show Lm.combR [a, b] = Lm.mergeR a b from rfl] at hcc
    have HVC := Lib.hid (HCB.out.valid hv.1 hv.2)
    have HVA := Lib.hid hv.1
    have HVB := Lib.hid hv.2
    clear hv
    generalize Lm.mergeR a b = cc at *
    have C3 := Lib.hid hcc
    clear hcc
    go_wp2_with fail
    generalize hWA : w4.alloc (.cells #[.slice A10 a.length c10, .slice A11 b.length c11] 23) = WA at *
    clear hWA
    with_reducible refine C3.out.mono ?_
    rintro e w5 ⟨r12, rfl, hO5, hb5⟩
    obtain ⟨A12, c12, rfl, hg12⟩ := Lm.OwnB.shape hO5
    have HO5 := Lib.hid hO5
    have H45 := Lib.hid (HBA.out.trans (hb5.mono HBA.out.size))
    have hcd := combine_any _ _ _ _ (imgs_one w5 _ a ((Lm.OwnB.strs HO34.out).below H45.out))
    rw [(combE_one a).trans (if_pos HVA.out), if_pos rfl, show Lm.combR [a] = a from rfl] at hcd
    have C4 := Lib.hid hcd
    have HBA5 := Lib.hid (show Below w5.heap.size w5 (w5.alloc (.cells #[.slice A10 a.length c10] 23)) from (Below.refl _ w5).alloc (Nat.le_refl _) _)
    clear C3 hO5 hb5 HBA hcd
    go_wp2_with fail
    generalize hWB : w5.alloc (.cells #[.slice A10 a.length c10] 23) = WB at *
    clear hWB
    with_reducible refine C4.out.mono ?_
    rintro e w6 ⟨r14, rfl, hO6, hb6⟩
    have HO6 := Lib.hid hO6
    have H56 := Lib.hid (HBA5.out.trans (hb6.mono HBA5.out.size))
    have H46 := Lib.hid (H45.out.trans (H56.out.mono H45.out.size))
    clear C4 hO6 hb6 HBA5
    have HCL := Lib.hid (show cc.length = img.length from HCB.out.la.trans HLA.out)
    have CE := Lib.hid (equalI_same r14 (.slice A10 a.length c10) a w6 (Lm.OwnB.strs HO6.out) ((Lm.OwnB.strs HO34.out).below H46.out))
    go_wp2_with fail
    with_reducible refine CE.out.mono ?_
    rintro e w7 ⟨rfl, hb7⟩
    have H47 := Lib.hid (H46.out.trans (hb7.mono H46.out.size))
    have H57 := Lib.hid (H56.out.trans (hb7.mono H56.out.size))
    have x7 := HBX.out w7 (H04.out.trans (H47.out.mono H04.out.size))
    have dl : ((cc.length : Int) != (img.length : Int)) = false := by rw [HCL.out]; simp
    clear CE hb7
    go_wp2_with fail
    go_loopw [16, 17, 18, 89] (fun _ _ _ iv wr => ∃ i : Nat, i ≤ cc.length ∧ iv = .int .i64 i ∧ Below w7.heap.size w7 wr) (fun _ _ _ iv _ => cc.length - (intOf iv).toNat)
    case atStart => exact ⟨0, Nat.zero_le _, rfl, Below.refl _ _⟩
    case round =>
      obtain ⟨i, hi, rfl, hbr⟩ := hrel
      by_cases hic : i < cc.length
      · have hcl := HCB.out.la
        have hcl2 := HCB.out.lb
        have hcl3 := HCL.out
        obtain ⟨ga, rfl, _⟩ := hg10 (by omega)
        obtain ⟨gb, rfl, _⟩ := hg11 (by omega)
        obtain ⟨gc, rfl, _⟩ := hg12 (by omega)
        have p1 := Lm.OwnB.cell HO34.out (j := i) (by omega)
        have p2 := HO4.out.cell (j := i) (by omega)
        have p3 := HO5.out.cell (j := i) hic
        have HBW := Lib.hid (show Below w.heap.size w wr from HB4.out.trans ((H47.out.trans (hbr.mono H47.out.size)).mono HB4.out.size))
        obtain ⟨ib, io, ic, hv2, hil2, p4⟩ := Lm.Strs.cell (HMS.out.1.below HBW.out) (show i < img.length by omega)
        obtain ⟨rfl, _, rfl⟩ : A = some ⟨ib, io, none⟩ ∧ img.length = img.length ∧ c = ic := by simpa using hv2
        clear hv2
        have q1 := ((H47.out.trans (hbr.mono H47.out.size)).cell (p := ⟨ga, i, none⟩) (World.block_lt_of_cell? _ _ p1)).trans p1
        have q2 := ((H47.out.trans (hbr.mono H47.out.size)).cell (p := ⟨gb, i, none⟩) (World.block_lt_of_cell? _ _ p2)).trans p2
        have q3 := ((H57.out.trans (hbr.mono H57.out.size)).cell (p := ⟨gc, i, none⟩) (World.block_lt_of_cell? _ _ p3)).trans p3
        have x8 := HBX.out wr (H04.out.trans ((H47.out.trans (hbr.mono H47.out.size)).mono H04.out.size))
        have hat := HCB.out.at' i hic
        have hsa := fun h => HWA.out.same (j := i) h
        have hsb := fun h => HWB.out.same (j := i) h
        have hia : i < a.length := by omega
        have hib : i < b.length := by omega
        have hii : i < img.length := by omega
        rw [hat] at q3
        clear hat p1 p2 p3 dl x7 hcl hcl2 hcl3
        generalize a.getD i ⟨#[]⟩ = xa at *
        generalize b.getD i ⟨#[]⟩ = xb at *
        generalize img.getD i ⟨#[]⟩ = xi at *
        by_cases ha : xa.size = 2048
        · obtain rfl : xa = xi := hsa ha
          rw [Lm.mix_l ha] at q3
          have f1 : ((xa.size : Int) == 2048) = true := by rw [ha]; rfl
          clear hsa hsb ha
          go_wp2_with fail
          go_quiet (fail)
          go_wp2_with fail
          go_quiet (fail)
          go_wp2_with fail
          go_roundw
          case rel => exact ⟨i + 1, by omega, by go_num, by first | exact Kit.Below.drewN (Kit.Below.drewN hbr _) _ | exact Kit.Below.drewN hbr _⟩
          case measure => simp [intOf]; omega
        · have f1 : ((xa.size : Int) == 2048) = false := by rw [beq_eq_false_iff_ne]; omega
          by_cases hb : xb.size = 2048
          · rw [Lm.mix_r ha hb] at q3
            obtain rfl : xb = xi := hsb hb
            have f2 : ((xb.size : Int) == 2048) = true := by rw [hb]; rfl
            clear hsa hsb ha hb
            go_wp2_with fail
            go_quiet (fail)
            go_wp2_with fail
            go_quiet (fail)
            go_wp2_with fail
            go_roundw
            case rel => exact ⟨i + 1, by omega, by go_num, by first | exact Kit.Below.drewN (Kit.Below.drewN hbr _) _ | exact Kit.Below.drewN hbr _⟩
            case measure => simp [intOf]; omega
          · have hmn := Lm.mix_n ha hb
            generalize Lm.mix xa xb = xm at *
            have f2 : ((xb.size : Int) == 2048) = false := by rw [beq_eq_false_iff_ne]; omega
            have f3 : ((xm.size : Int) == 2048) = false := by rw [beq_eq_false_iff_ne]; omega
            clear hsa hsb ha hb hmn
            go_wp2_with fail
            go_quiet (fail)
            go_wp2_with fail
            go_quiet (fail)
            go_wp2_with fail
            go_roundw
            case rel => exact ⟨i + 1, by omega, by go_num, by first | exact Kit.Below.drewN (Kit.Below.drewN hbr _) _ | exact Kit.Below.drewN hbr _⟩
            case measure => simp [intOf]; omega
      · obtain rfl : i = cc.length := by omega
        have HBW := Lib.hid (show Below w.heap.size w wr from HB4.out.trans ((H47.out.trans (hbr.mono H47.out.size)).mono HB4.out.size))
        clear dl x7
        by_cases hcf : Lm.chkF fs = 0
        · have L1 := lost_any _ _ a fs wr ((Lm.OwnB.strs HO34.out).below (H47.out.trans (hbr.mono H47.out.size))) (HF.out.below HBW.out) (fun j hj => (HS.out.each j hj).1)
          have L2 := fun W (h : Below wr.heap.size wr W) => lost_any _ _ b fs W (((Lm.OwnB.strs HO4.out).below (H47.out.trans (hbr.mono H47.out.size))).below h) ((HF.out.below HBW.out).below h) (fun j hj => (HS.out.each j hj).1)
          have L3 := fun W (h : Below wr.heap.size wr W) => lost_any _ _ cc fs W (((Lm.OwnB.strs HO5.out).below (H57.out.trans (hbr.mono H57.out.size))).below h) ((HF.out.below HBW.out).below h) (fun j hj => (HS.out.each j hj).1)
          rw [Lm.chk_valid HVA.out] at L1
          simp only [Lm.chk_valid HVB.out] at L2
          simp only [Lm.chk_valid HVC.out] at L3
          rw [hcf, if_pos rfl] at L1
          simp only [hcf, if_true] at L2 L3
          have M1 := Lib.hid L1
          have M2 := Lib.hid L2
          have M3 := Lib.hid L3
          clear L1 L2 L3
          go_wp2_with fail
          with_reducible refine M1.out.mono ?_
          rintro e u1 ⟨r19, rfl, ho1, hu1⟩
          have K1 := Lib.hid hu1
          have R1 := Lib.hid (Lm.OwnL.row ho1)
          have N2 := Lib.hid (M2.out u1 hu1)
          clear ho1 hu1 M1 M2
          go_wp2_with fail
          with_reducible refine N2.out.mono ?_
          rintro e u2 ⟨r20, rfl, ho2, hu2⟩
          have K2 := Lib.hid (K1.out.trans (hu2.mono K1.out.size))
          have R2 := Lib.hid (Lm.OwnL.row ho2)
          have R12 := Lib.hid (R1.out.below hu2)
          have N3 := Lib.hid (M3.out u2 (K1.out.trans (hu2.mono K1.out.size)))
          clear ho2 hu2 N2 M3
          go_wp2_with fail
          with_reducible refine N3.out.mono ?_
          rintro e u3 ⟨r21, rfl, ho3, hu3⟩
          have K3 := Lib.hid (K2.out.trans (hu3.mono K2.out.size))
          have R3 := Lib.hid (Lm.OwnL.row ho3)
          have R13 := Lib.hid (R12.out.below hu3)
          have R23 := Lib.hid (R2.out.below hu3)
          have HBE := Lib.hid (HBW.out.trans (K3.out.mono HBW.out.size))
          clear ho3 hu3 N3
          have hall := Lm.chkF_zero hcf
          have hfw := fun i => Lm.lost_few (img := img) hall HS.out i
          have y1 := Lm.less_bytes (a := cc) (b := a) (fs := fs) (fun k h => HCB.out.left k h) hall
          have y2 := Lm.less_bytes (a := cc) (b := b) (fs := fs) (fun k h => HCB.out.right k h) hall
          have B3 := Lib.hid (bytes_any r21 (Lm.lostR cc fs) u3 R3.out (hfw cc).1 (hfw cc).2)
          have HFW := Lib.hid hfw
          have dmin : decide (Lm.bytesR (Lm.lostR cc fs) ≤ min (Lm.bytesR (Lm.lostR a fs)) (Lm.bytesR (Lm.lostR b fs))) = true := decide_eq_true (by omega)
          clear hall hfw hcf
          generalize Lm.bytesR (Lm.lostR cc fs) = nb at *
          go_wp2_with fail
          with_reducible refine B3.out.mono ?_
          rintro e u4 ⟨rfl, hu4⟩
          have B1 := Lib.hid (bytes_any r19 (Lm.lostR a fs) u4 (R13.out.below hu4) (HFW.out a).1 (HFW.out a).2)
          have R24 := Lib.hid (R23.out.below hu4)
          have E4 := Lib.hid (HBE.out.trans (hu4.mono HBE.out.size))
          clear hu4 B3
          generalize Lm.bytesR (Lm.lostR a fs) = na at *
          go_wp2_with fail
          with_reducible refine B1.out.mono ?_
          rintro e u5 ⟨rfl, hu5⟩
          have B2 := Lib.hid (bytes_any r20 (Lm.lostR b fs) u5 (R24.out.below hu5) (HFW.out b).1 (HFW.out b).2)
          have E5 := Lib.hid (E4.out.trans (hu5.mono E4.out.size))
          clear hu5 B1
          generalize Lm.bytesR (Lm.lostR b fs) = nc at *
          go_wp2_with fail
          with_reducible refine B2.out.mono ?_
          rintro e u6 ⟨rfl, hu6⟩
          go_wp2_with fail
          go_ret
          first
            | exact ⟨rfl, E5.out.trans (hu6.mono E5.out.size)⟩
            | exact ⟨by simp; omega, E5.out.trans (hu6.mono E5.out.size)⟩
        · have L1 := lost_any _ _ a fs wr ((Lm.OwnB.strs HO34.out).below (H47.out.trans (hbr.mono H47.out.size))) (HF.out.below HBW.out) (fun j hj => (HS.out.each j hj).1)
          have L2 := fun W (h : Below wr.heap.size wr W) => lost_any _ _ b fs W (((Lm.OwnB.strs HO4.out).below (H47.out.trans (hbr.mono H47.out.size))).below h) ((HF.out.below HBW.out).below h) (fun j hj => (HS.out.each j hj).1)
          have L3 := fun W (h : Below wr.heap.size wr W) => lost_any _ _ cc fs W (((Lm.OwnB.strs HO5.out).below (H57.out.trans (hbr.mono H57.out.size))).below h) ((HF.out.below HBW.out).below h) (fun j hj => (HS.out.each j hj).1)
          rw [Lm.chk_valid HVA.out] at L1
          simp only [Lm.chk_valid HVB.out] at L2
          simp only [Lm.chk_valid HVC.out] at L3
          rw [if_neg hcf] at L1
          simp only [if_neg hcf] at L2 L3
          generalize Lm.chkF fs = e0 at *
          have hne : (e0 == 0) = false := by rw [beq_eq_false_iff_ne]; exact hcf
          have hne2 : (e0 != 0) = true := by rw [bne, hne]; rfl
          have hee : (e0 == e0) = true := beq_self_eq_true _
          clear hcf
          have M1 := Lib.hid L1
          have M2 := Lib.hid L2
          have M3 := Lib.hid L3
          clear L1 L2 L3
          go_wp2_with fail
          with_reducible refine M1.out.mono ?_
          rintro e u1 ⟨r19, rfl, ho1, hu1⟩
          have K1 := Lib.hid hu1
          have R1 := Lib.hid (Lm.OwnL.row ho1)
          have N2 := Lib.hid (M2.out u1 hu1)
          clear ho1 hu1 M1 M2
          go_wp2_with fail
          with_reducible refine N2.out.mono ?_
          rintro e u2 ⟨r20, rfl, ho2, hu2⟩
          have K2 := Lib.hid (K1.out.trans (hu2.mono K1.out.size))
          have R2 := Lib.hid (Lm.OwnL.row ho2)
          have R12 := Lib.hid (R1.out.below hu2)
          have N3 := Lib.hid (M3.out u2 (K1.out.trans (hu2.mono K1.out.size)))
          clear ho2 hu2 N2 M3
          go_wp2_with fail
          with_reducible refine N3.out.mono ?_
          rintro e u3 ⟨r21, rfl, ho3, hu3⟩
          have K3 := Lib.hid (K2.out.trans (hu3.mono K2.out.size))
          have R3 := Lib.hid (Lm.OwnL.row ho3)
          have R13 := Lib.hid (R12.out.below hu3)
          have R23 := Lib.hid (R2.out.below hu3)
          have HBE := Lib.hid (HBW.out.trans (K3.out.mono HBW.out.size))
          clear ho3 hu3 N3
          go_wp2_with fail
          go_ret
          first
            | exact ⟨rfl, HBE.out⟩
            | exact ⟨by simp, HBE.out⟩
  · rw [(combE_two a b).trans (if_neg hv), if_neg (by decide)] at hcc
    clear hv
    have C3 := Lib.hid hcc
    clear hcc
    go_wp2_with fail
    generalize hWA : w4.alloc (.cells #[.slice A10 a.length c10, .slice A11 b.length c11] 23) = WA at *
    clear hWA
    with_reducible refine C3.out.mono ?_
    rintro e w5 ⟨r12, rfl, hO5, hb5⟩
    obtain ⟨A12, c12, rfl, hg12⟩ := Lm.OwnB.shape hO5
    have H45 := Lib.hid (HBA.out.trans (hb5.mono HBA.out.size))
    have hcd := combine_any _ _ _ _ (imgs_one w5 _ a ((Lm.OwnB.strs HO34.out).below H45.out))
    generalize Lm.combE [a] = e1 at *
    have C4 := Lib.hid hcd
    have HBA5 := Lib.hid (show Below w5.heap.size w5 (w5.alloc (.cells #[.slice A10 a.length c10] 23)) from (Below.refl _ w5).alloc (Nat.le_refl _) _)
    clear C3 hO5 hb5 HBA hcd
    simp only [List.length_nil] at *
    go_wp2_with fail
    generalize hWB : w5.alloc (.cells #[.slice A10 a.length c10] 23) = WB at *
    clear hWB
    with_reducible refine C4.out.mono ?_
    rintro e w6 ⟨r14, rfl, hO6, hb6⟩
    have H56 := Lib.hid (HBA5.out.trans (hb6.mono HBA5.out.size))
    have HBE := Lib.hid (HB4.out.trans ((H45.out.trans (H56.out.mono H45.out.size)).mono HB4.out.size))
    clear C4 hO6 hb6 HBA5
    cases hf1 : (e1 == 1) with
    | true =>
      go_wp2_with fail
      go_ret
      exact ⟨rfl, HBE.out⟩
    | false =>
      go_wp2_with fail
      go_ret
      exact ⟨rfl, HBE.out⟩
end Go.Proofs.YtlhechlbmbjffaaDoor

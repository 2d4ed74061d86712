/-
  The walk through volumeseq.ParseSequence.
-/
import Derived.Test.YthkppbimkjmbnaaGreatDoorZX
namespace Go.Proofs.YthkppbimkjmbnaaGreatDoor
open Go.RowKit Go.Maps
open Vs (bs by_)

set_option maxHeartbeats 12800000 in
set_option maxRecDepth 100000 in
/-- ParseSequence of few blocks. -/
theorem pseq_main (v : Value) (l : List ByteArray) (loc : Int) (w : World) (m : Int) (hv : Kit.Row w v (Vs.strs l)) (hT : Lib.Utf8Tabs 1 2 w) (hM : w.cell? ⟨0, 0, none⟩ = some (.int .i64 m)) (hs : ∀ j, j < l.length → (l.getD j ⟨#[]⟩).size ≤ 9223372036854775807) (hw : Vs.word loc = true) (hl : ¬ 1024 < l.length) :
    Calls Tryz.prog 26 #[v, .int .i64 loc] w fun e w' => e = .returned (.tuple #[.agg (Vs.dC (Vs.parR l loc).1.1), .int .i64 (Vs.parR l loc).1.2, .int .i64 (Vs.parR l loc).2]) ∧ Below w.heap.size w w' := by
  have HR := Lib.hid (show Vs.parR l loc = Vs.parS (Vs.scan loc l 0 fun _ => none) from (if_neg (by rw [hw]; decide)).trans (if_neg hl))
  have CW := Lib.hid (fun W => word_any loc W)
  rw [hw] at CW
  have CZ := Lib.hid zero_any
  have HZB := Lib.hid (show by_ (bs (Vs.z 2048)) = Vs.z 2048 from rfl)
  generalize bs (Vs.z 2048) = r at *
  have HV := Lib.hid hv
  have HT := Lib.hid hT
  have HM := Lib.hid hM
  have HSZ := Lib.hid hs
  obtain ⟨hw0, hw1⟩ := (Vs.word_iff loc).1 hw
  obtain ⟨Z, hZ⟩ : ∃ Z, Z = Vs.zC := ⟨_, rfl⟩
  have HS := Lib.hid (Vs.PsB.start w Z)
  have HZ := Lib.hid (show Z = Vs.dC Vs.d0 from hZ)
  have HZ1 := Lib.hid (show Z.all (·.oneCell') = true by rw [hZ]; exact Vs.zC_one)
  have HZI := Lib.hid (show (Tryz.prog.info? 46).map (·.size) = some Z.size by rw [hZ]; exact Vs.zC_info)
  have HZL := Lib.hid (show (#[.string ⟨#[]⟩, .string ⟨#[]⟩, .string ⟨#[]⟩, .string ⟨#[]⟩, .string ⟨#[]⟩, .int .i64 0, .int .i64 0, .int .i64 0, .int .i64 0, .int .i64 0, .int .i64 0, .int .i64 0, .int .i64 0, .int .i64 0, .int .i64 0, .string ⟨#[]⟩, .int .i64 0, .int .i64 0, .int .i64 0, .int .i64 0, .int .i64 0, .int .i64 0] : Array Value) = Z from hZ.symm)
  have hz22 : Z.size = 22 := by rw [hZ]; rfl
  obtain ⟨A, c, rfl, hlc, hcm, -⟩ := hv
  rw [Vs.strs_len] at *
  have d1 : decide ((1024 : Int) < (l.length : Int)) = false := decide_eq_false (by omega)
  have hl' : l.length ≤ 1024 := by omega
  have hmm := @run_makeMap Tryz.prog
  clear hZ hw hs hT hM hlc hcm hl
  go_enter Tryz.func26, Tryz.ntmps26
  go_upto_region 1 with fail
  go_upto_region 2 with (refine wpList_store_mid rfl 46 _ _ rfl (w.heap.size + 1) 0 Vs.zC (by rfl) (by rfl) (Vs.row_there (heap_alloc2_new w _ _) rfl) Vs.zC_info Vs.zC_one ?_)
  unfold Vs.zC
  rw [HZL.out]
  generalize (((w.alloc (.cells Z 46)).alloc (.cells Z 46)).setCells (w.heap.size + 1) 0 Z.toList) = W1 at *
  go_wp2_with fail
  with_reducible refine (CW.out _).mono ?_
  rintro e wx ⟨rfl, hx⟩
  subst hx
  go_upto_region 6 with fail
  have HPM := Lib.hid (Vs.PMap.made W1)
  have HS2 := Lib.hid (HS.out.below ((Below.refl W1.heap.size W1).alloc (Nat.le_refl _) (.map #[] 0)))
  have hmb : w.heap.size + 2 ≤ W1.heap.size := HS.out.size
  go_upto_block 1 with fail
  generalize W1.alloc (.map #[] 0) = W2 at *
  generalize W1.heap.size = mb at *
  clear HS hmm CW d1
  go_cut [9, 10, 11, 12, 13, 14, 15, 16, 17] from 42 to 105 (fun cv _ _ _ _ _ _ _ _ wx => ∃ (n k : Nat) (f : Int → Option Vs.Pv), cv = .int .i64 (k : Int) ∧ k ≤ l.length ∧ Hid (Vs.scan loc l 0 (fun _ => none) = .ok f k) ∧ Hid (Vs.PsB w wx Z) ∧ Hid (Vs.PMap wx mb n f) ∧ Hid (Vs.Whole f))
  case first =>
    go_wp2_with fail
    go_loopw [9, 10, 11, 12, 13, 14, 15, 16, 17, 42] (fun cv _ _ _ _ _ _ _ _ iv wr => ∃ (j n : Nat) (f : Int → Option Vs.Pv), cv = .int .i64 (j : Int) ∧ iv = .int .i64 (j : Int) ∧ j ≤ l.length ∧ n ≤ j ∧ Hid (Vs.scan loc l 0 (fun _ => none) = Vs.scan loc (l.drop j) j f) ∧ Hid (Vs.PsB w wr Z) ∧ Hid (Vs.PMap wr mb n f) ∧ Hid (Vs.Whole f)) (fun _ _ _ _ _ _ _ _ _ iv _ => l.length - (intOf iv).toNat)
    case atStart => exact ⟨0, 0, _, rfl, rfl, Nat.zero_le _, Nat.le_refl _, Lib.hid rfl, HS2, HPM, Lib.hid Vs.Whole.nil⟩
    case round =>
      obtain ⟨j, n, f, rfl, rfl, hj, hn, HSC, HP, HMP, HWH⟩ := hrel
      by_cases hlt : j < l.length
      · obtain ⟨A', c', hv', -, -, hcells⟩ := HV.out.below HP.out.bel
        rw [Vs.strs_len] at hv' hcells
        obtain ⟨b, o, rfl, hb, hc⟩ := hcells (by omega)
        obtain ⟨rfl, rfl⟩ : A = some ⟨b, o, none⟩ ∧ c = c' := by simpa using hv'
        have q0 : wr.cell? ⟨b, o + j, none⟩ = some (.string (l.getD j ⟨#[]⟩)) := hc j _ (by simp [Vs.strs, List.getD, hlt])
        have hsz := HSZ.out j hlt
        have HS1 := Lib.hid (HSC.out.trans (Vs.scan_cons loc hlt f))
        clear hv' hcells hc
        generalize l.getD j ⟨#[]⟩ = s at *
        by_cases he0 : by_ s = []
        · have e0 : s.toList.isEmpty = true := by rw [Lib.toList_data]; show (by_ s).isEmpty = true; rw [he0]; rfl
          have HSE := Lib.hid (HS1.out.trans (if_pos (by unfold Vs.endB; rw [decide_eq_true he0]; rfl)))
          clear he0
          go_wp2_with fail
          go_meet
          exact ⟨n, j, f, rfl, hj, HSE, HP, HMP, HWH⟩
        have e0 : s.toList.isEmpty = false := by
          rw [Lib.toList_data]
          show (by_ s).isEmpty = false
          cases h : by_ s with
          | nil => exact absurd h he0
          | cons a t => rfl
        go_wp2_with fail
        with_reducible refine (CZ.out _).mono ?_
        rintro e wz ⟨rfl, hbz⟩
        have HPz := Lib.hid (HP.out.below hbz)
        have HMz := Lib.hid (HMP.out.below hbz)
        clear hbz q0
        by_cases hez : by_ s = Vs.z 2048
        · have e1 : (s.toList == r.toList) = true := by rw [Lib.toList_data, Lib.toList_data, beq_iff_eq]; exact hez.trans HZB.out.symm
          have HSE := Lib.hid (HS1.out.trans (if_pos (by unfold Vs.endB; rw [decide_eq_true hez, Bool.or_true])))
          clear he0 hez
          go_wp2_with fail
          go_meet
          exact ⟨n, j, f, rfl, hj, HSE, HPz, HMz, HWH⟩
        have e1 : (s.toList == r.toList) = false := by rw [Lib.toList_data, Lib.toList_data, beq_eq_false_iff_ne]; exact fun h => hez (h.trans HZB.out)
        have hE : ¬ Vs.endB s = true := by unfold Vs.endB; rw [decide_eq_false he0, decide_eq_false hez]; decide
        by_cases h33 : by_ s = [33]
        · have e2 : (s.toList == [33]) = true := by rw [Lib.toList_data, beq_iff_eq]; exact h33
          have HRE := Lib.hid (show Vs.parR l loc = ((Vs.d0, (j : Int)), 9) from HR.out.trans (congrArg Vs.parS (HS1.out.trans ((if_neg hE).trans (if_pos h33)))))
          clear he0 hez hE h33
          have HLD := Lib.hid (Vs.box_load Vs.d0 HZ.out HPz.out.hn)
          have hst := Vs.run_put (P := Tryz.prog) HPz.out.hr Z rfl HZ1.out
          go_wp2_with (refine wpList_load_at 46 _ rfl (w.heap.size + 1) 0 rfl _ HLD.out (by rfl) ?_)
          exact bodyPost_ret (v := .tuple #[.agg Z, .int .i64 (j : Int), .int .i64 9]) (res_ctt rfl _ _ w.heap.size 46 Z (0, 0) _ rfl (HPz.out.out rfl).1 Tryz.underlying46 rfl HZI.out _ _ rfl rfl) rfl ⟨by rw [HRE.out, HZ.out], (HPz.out.out rfl).2⟩
        have e2 : (s.toList == [33]) = false := by rw [Lib.toList_data, beq_eq_false_iff_ne]; exact h33
        have HE := Lib.hid hE
        have H33 := Lib.hid h33
        clear he0 hez hE h33
        by_cases hg : Vs.goodB s (loc + (j : Int)) = true
        case neg =>
          have HRE := Lib.hid (show Vs.parR l loc = ((Vs.d0, (j : Int)), 10) from HR.out.trans (congrArg Vs.parS (HS1.out.trans ((if_neg HE.out).trans ((if_neg H33.out).trans (if_neg hg))))))
          have CO := Lib.hid (fun W => open_any s (loc + (j : Int)) W hsz)
          have hbad : s.size = 2048 → (Vs.openR (by_ s) (loc + (j : Int))).2 ≠ 0 := fun h1 h2 => hg (by
            unfold Vs.goodB
            rw [Bool.and_eq_true, decide_eq_true_eq, decide_eq_true_eq]
            refine ⟨h1, ?_⟩
            unfold Vs.openR at h2
            by_cases g : Vs.faultsR (by_ s) (loc + (j : Int)) = []
            · exact g
            · rw [if_neg g] at h2
              cases h2)
          generalize Vs.openR (by_ s) (loc + (j : Int)) = O at *
          obtain ⟨⟨⟨o1, o2, o3, o4⟩, ob⟩, oe⟩ := O
          simp only [Vs.tgV] at CO hbad
          generalize bs ob = obs at *
          clear hg HS1 HSC
          go_wp2_with fail
          with_reducible refine (CO.out _).mono ?_
          rintro e w4 ⟨rfl, hb4⟩
          have HP4 := Lib.hid ((HPz.out.below hb4).below ((Below.refl w4.heap.size w4).alloc (Nat.le_refl _) (.cells #[.int .i64 o1, .int .i64 o2, .int .i64 o3, .int .i64 o4] 104)))
          clear hb4
          go_upto_region 15 with fail
          generalize w4.alloc (.cells #[.int .i64 o1, .int .i64 o2, .int .i64 o3, .int .i64 o4] 104) = w5 at *
          by_cases hs2 : s.size = 2048
          · have d1 : ((s.size : Int) != 2048) = false := by rw [bne_eq_false_iff_eq]; omega
            have d2 : (oe != 0) = true := by rw [bne_iff_ne]; exact hbad hs2
            clear hbad
            have HLD := Lib.hid (Vs.box_load Vs.d0 HZ.out HP4.out.hn)
            have hst := Vs.run_put (P := Tryz.prog) HP4.out.hr Z rfl HZ1.out
            go_wp2_with (refine wpList_load_at 46 _ rfl (w.heap.size + 1) 0 rfl _ HLD.out (by rfl) ?_)
            exact bodyPost_ret (v := .tuple #[.agg Z, .int .i64 (j : Int), .int .i64 10]) (res_ctt rfl _ _ w.heap.size 46 Z (0, 0) _ rfl (HP4.out.out rfl).1 Tryz.underlying46 rfl HZI.out _ _ rfl rfl) rfl ⟨by rw [HRE.out, HZ.out], (HP4.out.out rfl).2⟩
          · have d1 : ((s.size : Int) != 2048) = true := by rw [bne_iff_ne]; omega
            clear hbad
            have HLD := Lib.hid (Vs.box_load Vs.d0 HZ.out HP4.out.hn)
            have hst := Vs.run_put (P := Tryz.prog) HP4.out.hr Z rfl HZ1.out
            go_wp2_with (refine wpList_load_at 46 _ rfl (w.heap.size + 1) 0 rfl _ HLD.out (by rfl) ?_)
            exact bodyPost_ret (v := .tuple #[.agg Z, .int .i64 (j : Int), .int .i64 10]) (res_ctt rfl _ _ w.heap.size 46 Z (0, 0) _ rfl (HP4.out.out rfl).1 Tryz.underlying46 rfl HZI.out _ _ rfl rfl) rfl ⟨by rw [HRE.out, HZ.out], (HP4.out.out rfl).2⟩
        have HS2 := Lib.hid (HS1.out.trans ((if_neg HE.out).trans ((if_neg H33.out).trans (if_pos hg))))
        obtain ⟨hgs, hgf⟩ : s.size = 2048 ∧ Vs.faultsR (by_ s) (loc + (j : Int)) = [] := by
          unfold Vs.goodB at hg
          rw [Bool.and_eq_true, decide_eq_true_eq, decide_eq_true_eq] at hg
          exact hg
        have CO := Lib.hid (fun W => open_any s (loc + (j : Int)) W hsz)
        have CR := Lib.hid (fun W => vRead_any s 16 4 16 4 rfl rfl (.inr rfl) (by omega) hsz W)
        rw [show Vs.openR (by_ s) (loc + (j : Int)) = (((((Pm.at_ (by_ s) 0 2 : Nat) : Int), ((Pm.at_ (by_ s) 6 2 : Nat) : Int), ((Pm.at_ (by_ s) 10 2 : Nat) : Int), ((Pm.at_ (by_ s) 12 4 : Nat) : Int)), Vs.sl (by_ s) 16 (Pm.at_ (by_ s) 10 2)), 0) from if_pos hgf] at CO
        simp only [Vs.tgV] at CO
        have hid := Vs.idB_bd s
        obtain ⟨id, hid'⟩ : ∃ id, Vs.idB s = id := ⟨_, rfl⟩
        obtain ⟨sq, hsq'⟩ : ∃ sq, Vs.sqB s = sq := ⟨_, rfl⟩
        rw [hid', hsq'] at HS2
        rw [hid'] at hid
        rw [show ((Pm.at_ (by_ s) 0 2 : Nat) : Int) = id from hid'] at CO
        rw [show ((Pm.at_ (by_ s) 16 4 : Nat) : Int) = sq from hsq'] at CR
        generalize ((Pm.at_ (by_ s) 6 2 : Nat) : Int) = t1 at *
        generalize bs (Vs.sl (by_ s) 16 (Pm.at_ (by_ s) 10 2)) = ob at *
        generalize ((Pm.at_ (by_ s) 10 2 : Nat) : Int) = t2 at *
        generalize ((Pm.at_ (by_ s) 12 4 : Nat) : Int) = t3 at *
        have hwf : (Lit.int .i64 id).wf = true := WalkArith.wf_i64 ⟨by omega, by omega⟩
        have d1 : ((s.size : Int) != 2048) = false := by rw [bne_eq_false_iff_eq]; omega
        clear hg hgf hid' hsq' HSC HS1
        have HS1 := Lib.hid hgs
        go_wp2_with fail
        with_reducible refine (CO.out _).mono ?_
        rintro e w4 ⟨rfl, hb4⟩
        have hba := (Below.refl w4.heap.size w4).alloc (Nat.le_refl _) (.cells #[.int .i64 id, .int .i64 t1, .int .i64 t2, .int .i64 t3] 104)
        have HM4 := HMz.out.below hb4
        have hm4 := HM4.lt
        have HP5 := Lib.hid ((HPz.out.below hb4).below hba)
        have HM5 := Lib.hid (HM4.below hba)
        have c5 := cell_of_row _ _ 0 _ _ _ (heap_alloc_new w4 (.cells #[.int .i64 id, .int .i64 t1, .int .i64 t2, .int .i64 t3] 104))
        simp only [List.getElem?_toArray, List.getElem?_cons_zero] at c5
        clear hb4 hba HM4
        go_upto_region 15 with fail
        generalize w4.alloc (.cells #[.int .i64 id, .int .i64 t1, .int .i64 t2, .int .i64 t3] 104) = w5 at *
        generalize w4.heap.size = tb at *
        go_wp2_with fail
        with_reducible refine (CR.out _).mono ?_
        rintro e wx ⟨rfl, hx⟩
        subst hx
        have hlk := HM5.out.look id hwf
        cases hf : f id with
        | none =>
          rw [hf] at hlk
          simp only [Vs.pvV, Vs.pvC, Option.isSome_none] at hlk
          have hba := (Below.refl w5.heap.size w5).alloc (Nat.le_refl _) (.cells #[.string ⟨#[]⟩, .int .i64 0, .int .i64 0] 109)
          have HP6 := Lib.hid (HP5.out.below hba)
          have HM6 := Lib.hid (HM5.out.below hba)
          have c6 := (hba.cell (p := ⟨tb, 0, none⟩) (World.block_lt_of_cell? _ _ c5)).trans c5
          have HUP := Lib.hid (Vs.upd_none (x := ⟨s, j, sq⟩) hf)
          clear hba hf
          go_upto_region 20 with fail
          generalize w5.alloc (.cells #[.string ⟨#[]⟩, .int .i64 0, .int .i64 0] 109) = w6 at *
          clear hlk c5
          obtain ⟨DD, hown, hput⟩ := HM6.out.put id ⟨s, j, sq⟩
          have HOWN := Lib.hid hown
          have HPUT := Lib.hid hput
          have HWX := Lib.hid (HWH.out.put id (x := ⟨s, j, sq⟩) hgs)
          clear hown hput
          go_wp2_with (at_mapUpdate; refine wpList_mapUpdate_own _ rfl _ _ _ 102 rfl 3 109 Vs.keyedI Tryz.underlying102 Vs.asIs mb n DD rfl HOWN.out (by unfold maxLen; omega) _ _ (.int .i64 id) rfl rfl (keyOf_int_mk Tryz.underlying3 hwf) (.held (Vs.pvV (some ⟨s, j, sq⟩))) [] rfl ?_)
          intro w7 ho7 hg7
          have HP7 := Lib.hid (HP6.out.grown hg7 (fun r e => by cases e; exact hmb))
          have HM7 := Lib.hid (HPUT.out w7 ho7)
          have c7 := hg7.cell c6 (fun e => by have h : tb = mb := Option.some.inj e; omega)
          clear ho7 hg7 c6 HPUT HOWN
          by_cases h8 : id = 8
          · have HSE := Lib.hid (HS2.out.trans (if_pos h8))
            rw [HUP.out] at HSE
            have d3 : (id == 8) = true := by rw [beq_iff_eq]; exact h8
            clear HS2 HS1 h8
            go_wp2_with fail
            go_meet
            exact ⟨n + 1, j + 1, (fun i => if i = id then some (⟨s, j, sq⟩ : Vs.Pv) else f i), rfl, by omega, HSE, HP7, HM7, HWX⟩
          · have HSE := Lib.hid (HS2.out.trans (if_neg h8))
            rw [HUP.out] at HSE
            have d3 : (id == 8) = false := by rw [beq_eq_false_iff_ne]; exact h8
            clear HS2 HS1 h8
            go_wp2_with fail
            go_roundw
            case rel => exact ⟨j + 1, n + 1, (fun i => if i = id then some (⟨s, j, sq⟩ : Vs.Pv) else f i), rfl, rfl, by omega, by omega, HSE, HP7, HM7, HWX⟩
            case measure => simp [intOf]; omega
        | some o =>
          obtain ⟨xb, xi, xs⟩ := o
          rw [hf] at hlk
          simp only [Vs.pvV, Vs.pvC, Option.isSome_some] at hlk
          have hba := (Below.refl w5.heap.size w5).alloc (Nat.le_refl _) (.cells #[.string xb, .int .i64 (xi : Int), .int .i64 xs] 109)
          have HP6 := Lib.hid (HP5.out.below hba)
          have HM6 := Lib.hid (HM5.out.below hba)
          have c6 := (hba.cell (p := ⟨tb, 0, none⟩) (World.block_lt_of_cell? _ _ c5)).trans c5
          have k6 := cell_of_row _ _ 2 _ _ _ (heap_alloc_new w5 (.cells #[.string xb, .int .i64 (xi : Int), .int .i64 xs] 109))
          simp only [List.getElem?_toArray, List.getElem?_cons_zero, List.getElem?_cons_succ] at k6
          have HUP0 := Lib.hid (Vs.upd_some (x := ⟨s, j, sq⟩) hf)
          clear hba hf
          go_upto_region 20 with fail
          generalize w5.alloc (.cells #[.string xb, .int .i64 (xi : Int), .int .i64 xs] 109) = w6 at *
          generalize w5.heap.size = xg at *
          clear hlk c5
          by_cases hlt2 : xs < sq
          · have HUP := Lib.hid (HUP0.out.trans (if_pos hlt2))
            have d2 : decide (xs < sq) = true := decide_eq_true hlt2
            clear HUP0
            obtain ⟨DD, hown, hput⟩ := HM6.out.put id ⟨s, j, sq⟩
            have HOWN := Lib.hid hown
            have HPUT := Lib.hid hput
            have HWX := Lib.hid (HWH.out.put id (x := ⟨s, j, sq⟩) hgs)
            clear hown hput
            go_wp2_with (at_mapUpdate; refine wpList_mapUpdate_own _ rfl _ _ _ 102 rfl 3 109 Vs.keyedI Tryz.underlying102 Vs.asIs mb n DD rfl HOWN.out (by unfold maxLen; omega) _ _ (.int .i64 id) rfl rfl (keyOf_int_mk Tryz.underlying3 hwf) (.held (Vs.pvV (some ⟨s, j, sq⟩))) [] rfl ?_)
            intro w7 ho7 hg7
            have HP7 := Lib.hid (HP6.out.grown hg7 (fun r e => by cases e; exact hmb))
            have HM7 := Lib.hid (HPUT.out w7 ho7)
            have c7 := hg7.cell c6 (fun e => by have h : tb = mb := Option.some.inj e; omega)
            clear ho7 hg7 c6 HPUT HOWN
            by_cases h8 : id = 8
            · have HSE := Lib.hid (HS2.out.trans (if_pos h8))
              rw [HUP.out] at HSE
              have d3 : (id == 8) = true := by rw [beq_iff_eq]; exact h8
              clear HS2 HS1 h8
              go_wp2_with fail
              go_meet
              exact ⟨n + 1, j + 1, (fun i => if i = id then some (⟨s, j, sq⟩ : Vs.Pv) else f i), rfl, by omega, HSE, HP7, HM7, HWX⟩
            · have HSE := Lib.hid (HS2.out.trans (if_neg h8))
              rw [HUP.out] at HSE
              have d3 : (id == 8) = false := by rw [beq_eq_false_iff_ne]; exact h8
              clear HS2 HS1 h8
              go_wp2_with fail
              go_roundw
              case rel => exact ⟨j + 1, n + 1, (fun i => if i = id then some (⟨s, j, sq⟩ : Vs.Pv) else f i), rfl, rfl, by omega, by omega, HSE, HP7, HM7, HWX⟩
              case measure => simp [intOf]; omega
          · have HUP := Lib.hid (HUP0.out.trans (if_neg hlt2))
            have d2 : decide (xs < sq) = false := decide_eq_false hlt2
            clear HUP0
            by_cases h8 : id = 8
            · have HSE := Lib.hid (HS2.out.trans (if_pos h8))
              rw [HUP.out] at HSE
              have d3 : (id == 8) = true := by rw [beq_iff_eq]; exact h8
              clear HS2 HS1 h8
              go_wp2_with fail
              go_meet
              exact ⟨n, j + 1, f, rfl, by omega, HSE, HP6, HM6, HWH⟩
            · have HSE := Lib.hid (HS2.out.trans (if_neg h8))
              rw [HUP.out] at HSE
              have d3 : (id == 8) = false := by rw [beq_eq_false_iff_ne]; exact h8
              clear HS2 HS1 h8
              go_wp2_with fail
              go_roundw
              case rel => exact ⟨j + 1, n, f, rfl, rfl, by omega, by omega, HSE, HP6, HM6, HWH⟩
              case measure => simp [intOf]; omega
      · have hjl : j = l.length := by omega
        have HSE := Lib.hid (HSC.out.trans (Vs.scan_out loc hlt f))
        go_wp2_with fail
        go_meet
        exact ⟨n, j, f, rfl, hj, HSE, HP, HMP, HWH⟩
  case rest =>
    obtain ⟨n, k, f, rfl, hk, HSC, HP, HM0, HWH⟩ := hcut
    have hba := (Below.refl wc.heap.size wc).alloc (Nat.le_refl _) (.cells #[.int .i64 1, .int .i64 5, .int .i64 6] 3)
    have HP1 := Lib.hid (HP.out.below hba)
    have HM1 := Lib.hid (HM0.out.below hba)
    have HI1 := Lib.hid (heap_alloc_new wc (.cells #[.int .i64 1, .int .i64 5, .int .i64 6] 3))
    have hmw := HM0.out.lt
    have hsz := HP.out.size
    clear hba HP HM0 HSZ CZ HZB HV
    go_upto_region 25 with fail
    have hs1 : (wc.alloc (.cells #[.int .i64 1, .int .i64 5, .int .i64 6] 3)).heap.size = wc.heap.size + 1 := by simp
    generalize wc.alloc (.cells #[.int .i64 1, .int .i64 5, .int .i64 6] 3) = w8 at *
    generalize wc.heap.size = sb at *
    have HIX := Lib.hid (show ∀ (W : World), Below w8.heap.size w8 W → ∀ i, i < 3 → W.cell? ⟨sb, i, none⟩ = some (.int .i64 (Vs.idI i)) from fun W h i hi => by
      have hc : i = 0 ∨ i = 1 ∨ i = 2 := by omega
      rw [cell_of_row _ _ i _ _ _ ((h.block sb (by omega)).trans HI1.out)]
      rcases hc with rfl | rfl | rfl <;> rfl)
    have HWF := Lib.hid (show ∀ i, i < 3 → (Lit.int .i64 (Vs.idI i)).wf = true from fun i hi => by
      have hc : i = 0 ∨ i = 1 ∨ i = 2 := by omega
      rcases hc with rfl | rfl | rfl <;> decide)
    clear HI1
    go_wp2_with fail
    go_loopw [20, 21, 22, 109] (fun _ _ _ iv wr => ∃ i : Nat, i ≤ 3 ∧ iv = .int .i64 (i : Int) ∧ Hid (∀ j, j < i → (f (Vs.idI j)).isSome = true) ∧ Hid (Below w8.heap.size w8 wr)) (fun _ _ _ iv _ => 3 - (intOf iv).toNat)
    case atStart => exact ⟨0, by omega, rfl, Lib.hid (fun j hj => absurd hj (Nat.not_lt_zero j)), Lib.hid (Below.refl _ _)⟩
    case round =>
      obtain ⟨i, hi, rfl, HALL, HB⟩ := hrel
      by_cases hlt : i < 3
      · have q0 := HIX.out wr HB.out i hlt
        have hwf := HWF.out i hlt
        have hlk := (HM1.out.below HB.out).look (Vs.idI i) hwf
        have hltI : (i : Int) < 3 := by omega
        cases hf : f (Vs.idI i) with
        | none =>
          have HRE := Lib.hid (show Vs.parR l loc = ((Vs.d0, (k : Int)), 6) from HR.out.trans ((congrArg Vs.parS HSC.out).trans (Vs.parS_miss hf hlt)))
          rw [hf] at hlk
          simp only [Vs.pvV, Vs.pvC, Option.isSome_none] at hlk
          generalize Vs.idI i = id at *
          have hba := (Below.refl wr.heap.size wr).alloc (Nat.le_refl _) (.cells #[.string ⟨#[]⟩, .int .i64 0, .int .i64 0] 109)
          have HP2 := Lib.hid ((HP1.out.below HB.out).below hba)
          clear hba hf
          go_upto_region 29 with fail
          generalize wr.alloc (.cells #[.string ⟨#[]⟩, .int .i64 0, .int .i64 0] 109) = w9 at *
          clear hlk q0
          have HLD := Lib.hid (Vs.box_load Vs.d0 HZ.out HP2.out.hn)
          have hst := Vs.run_put (P := Tryz.prog) HP2.out.hr Z rfl HZ1.out
          go_wp2_with (refine wpList_load_at 46 _ rfl (w.heap.size + 1) 0 rfl _ HLD.out (by rfl) ?_)
          exact bodyPost_ret (v := .tuple #[.agg Z, .int .i64 (k : Int), .int .i64 6]) (res_ctt rfl _ _ w.heap.size 46 Z (0, 0) _ rfl (HP2.out.out rfl).1 Tryz.underlying46 rfl HZI.out _ _ rfl rfl) rfl ⟨by rw [HRE.out, HZ.out], (HP2.out.out rfl).2⟩
        | some o =>
          obtain ⟨xb, xi, xs⟩ := o
          rw [hf] at hlk
          simp only [Vs.pvV, Vs.pvC, Option.isSome_some] at hlk
          have HALL2 := Lib.hid (show ∀ j, j < i + 1 → (f (Vs.idI j)).isSome = true from fun j hj => by
            by_cases h : j < i
            · exact HALL.out j h
            · obtain rfl : j = i := by omega
              rw [hf]
              rfl)
          clear hf
          generalize Vs.idI i = id at *
          have HB2 := Lib.hid (HB.out.trans (((Below.refl wr.heap.size wr).alloc (Nat.le_refl _) (.cells #[.string xb, .int .i64 (xi : Int), .int .i64 xs] 109)).mono HB.out.size))
          go_wp2_with fail
          go_roundw
          case rel => exact ⟨i + 1, by omega, by go_num, HALL2, HB2⟩
          case measure => simp [intOf]; omega
      · obtain rfl : i = 3 := by omega
        obtain ⟨a, h1⟩ := Option.isSome_iff_exists.1 (HALL.out 0 (by omega))
        obtain ⟨b, h5⟩ := Option.isSome_iff_exists.1 (HALL.out 1 (by omega))
        obtain ⟨c', h6⟩ := Option.isSome_iff_exists.1 (HALL.out 2 (by omega))
        have HBI := Lib.hid (fun i hi => Vs.bI_at h1 h5 h6 (i := i) hi)
        have HRP := Lib.hid (show Vs.parR l loc = Vs.par3 a b c' from HR.out.trans ((congrArg Vs.parS HSC.out).trans (Vs.parS_all h1 h5 h6)))
        have sa := HWH.out _ _ h1
        have sb' := HWH.out _ _ h5
        have sc := HWH.out _ _ h6
        have HSI := Lib.hid (Vs.bI_size sa sb' sc)
        have HPA := Lib.hid (fun tb db => prs_any a b c' sa sb' sc w m HT.out HM.out tb db)
        have HPE := Lib.hid (fun i hi => Vs.par3_err (a := a) (b := b) (c := c') (i := i) hi)
        have HPO := Lib.hid (Vs.par3_ok (a := a) (b := b) (c := c'))
        have HD0 := Lib.hid (show Vs.dC (Vs.dI a b c' 0) = Z from HZ.out.symm)
        have hszr := HB.out.size
        have hba := (Below.refl wr.heap.size wr).alloc (Nat.le_refl _) (.cells Z 46)
        have HP2 := Lib.hid ((HP1.out.below HB.out).below hba)
        have HM2 := Lib.hid ((HM1.out.below HB.out).below hba)
        have HB2 := Lib.hid (HB.out.trans (hba.mono HB.out.size))
        have HDB := Lib.hid (heap_alloc_new wr (.cells Z 46))
        have hs2 : (wr.alloc (.cells Z 46)).heap.size = wr.heap.size + 1 := by simp
        clear hba h1 h5 h6 sa sb' sc HALL
        go_upto_region 33 with fail
        rw [HZL.out]
        generalize wr.alloc (.cells Z 46) = w10 at *
        generalize wr.heap.size = db at *
        go_wp2_with fail
        with_reducible refine (parsers_any w10 db).mono ?_
        rintro e w11 ⟨rfl, hw11⟩
        have hb11 := Vs.prsW_below w10 db
        rw [← hw11] at hb11
        have HTB := Lib.hid (show w11.heap[w10.heap.size]? = some (.cells #[.pointer (some ⟨db, 0, none⟩)] 113 (0, 0)) from hw11 ▸ Vs.prsW_tb w10 db)
        have HFN := Lib.hid (show ∀ i, i < 3 → w11.cell? ⟨w10.heap.size + 1, i, none⟩ = some (.func (.func (Vs.prsF i)) #[] #[.pointer (some ⟨w10.heap.size, 0, none⟩)]) from fun i hi => hw11 ▸ Vs.prsW_fn w10 db hi)
        have hs11 : w10.heap.size + 2 ≤ w11.heap.size := by rw [hw11, Vs.prsW_size]; exact Nat.le_refl _
        have hs10 : db < w10.heap.size := by omega
        have HP3 := Lib.hid (HP2.out.below hb11)
        have HM3 := Lib.hid (HM2.out.below hb11)
        have HB3 := Lib.hid (HB2.out.trans (hb11.mono HB2.out.size))
        have HDB3 := Lib.hid ((hb11.block db (by omega)).trans HDB.out)
        have CP := Lib.hid (HPA.out w10.heap.size db (by omega) (by omega))
        clear hw11 hb11 HP2 HM2 HB2 HDB HPA HP1 HM1 HB hs2
        generalize w10.heap.size = tb at *
        go_wp2_with fail
        go_loopw [24, 25, 26, 27, 126] (fun _ _ _ _ iv wx => ∃ i : Nat, i ≤ 3 ∧ iv = .int .i64 (i : Int) ∧ Hid (∀ j, j < i → Vs.eI a b c' j = 0) ∧ Hid (wx.heap[db]? = some (.cells (Vs.dC (Vs.dI a b c' i)) 46 (0, 0))) ∧ Hid (Vs.Prs w11 wx db)) (fun _ _ _ _ iv _ => 3 - (intOf iv).toNat)
        case atStart => exact ⟨0, by omega, rfl, Lib.hid (fun j hj => absurd hj (Nat.not_lt_zero j)), Lib.hid (by rw [HD0.out]; exact HDB3.out), Lib.hid (Vs.Prs.refl _ _)⟩
        case round =>
          obtain ⟨i, hi, rfl, HEZ, HDI, HPR⟩ := hrel
          have HPX := Lib.hid (HP3.out.grown HPR.out.grown (fun r e => by cases e; omega))
          by_cases hlt : i < 3
          · have hltI : (i : Int) < 3 := by omega
            have hszx := HPR.out.size
            have HMX := Lib.hid (HM3.out.grown HPR.out.grown (fun e => by have h : mb = db := Option.some.inj e; omega))
            have q0 := HPR.out.grown.cell (HFN.out i hlt) (fun e => by have h : tb + 1 = db := Option.some.inj e; omega)
            have q1 := HPR.out.grown.cell (HIX.out w11 HB3.out i hlt) (fun e => by have h : sb = db := Option.some.inj e; omega)
            have hlk := HMX.out.look1 (Vs.idI i) (HWF.out i hlt)
            rw [HBI.out i hlt] at hlk
            have hbs := HSI.out i
            have CPI := Lib.hid (CP.out i hlt)
            have HPEI := Lib.hid (HPE.out i hlt HEZ.out)
            generalize Vs.bI a b c' i = xv at *
            obtain ⟨xb, xi, xs⟩ := xv
            simp only [Vs.pvV, Vs.pvC] at hlk
            simp only [] at hbs CPI HPEI
            have hba := (Below.refl wr.heap.size wr).alloc (Nat.le_refl _) (.cells #[.string xb, .int .i64 (xi : Int), .int .i64 xs] 109)
            have HPX2 := Lib.hid (HPX.out.below hba)
            have HPR2 := Lib.hid (HPR.out.below hba)
            have HDI2 := Lib.hid ((hba.block db (Array.getElem?_eq_some_iff.1 HDI.out).1).trans HDI.out)
            have HTB2 := Lib.hid ((HPR2.out.keep tb (by omega) (by omega)).trans HTB.out)
            have hxn := heap_alloc_new wr (.cells #[.string xb, .int .i64 (xi : Int), .int .i64 xs] 109)
            have hxd : db < wr.heap.size := (Array.getElem?_eq_some_iff.1 HDI.out).1
            go_upto_region 37 with fail
            clear hba hlk q1 HMX HPX HPR HDI
            have hen : ∀ (args : Array Value) (W : World), (callFunc (Vs.prsF i) args).run Tryz.prog W = .ok (.enter (Vs.prsF i) args) W := Vs.prs_enters i
            generalize hei : Vs.eI a b c' i = E at *
            generalize Vs.prsF i = fi at *
            generalize wr.alloc (.cells #[.string xb, .int .i64 (xi : Int), .int .i64 xs] 109) = w12 at *
            have c0 := cell_of_row _ _ 0 _ _ _ hxn
            have HXN := Lib.hid hxn
            generalize wr.heap.size = xg at *
            simp only [List.getElem?_toArray, List.getElem?_cons_zero] at c0
            clear hxn q0
            go_wp2_with fail
            with_reducible refine (CPI.out _ HPX2.out.bel HTB2.out HDI2.out).mono ?_
            rintro e w13 ⟨rfl, hdz, hpr⟩
            clear c0
            by_cases hE : E = 0
            · have HEZ2 := Lib.hid (show ∀ j, j < i + 1 → Vs.eI a b c' j = 0 from fun j hj => by
                by_cases h : j < i
                · exact HEZ.out j h
                · obtain rfl : j = i := by omega
                  rw [hei, hE])
              have HD2 := Lib.hid (hdz hE)
              have HPR3 := Lib.hid (HPR2.out.trans hpr)
              clear hdz hpr hei
              subst hE
              go_wp2_with fail
              go_roundw
              case rel => exact ⟨i + 1, by omega, by go_num, HEZ2, HD2, HPR3⟩
              case measure => simp [intOf]; omega
            · have HRE := Lib.hid (show Vs.parR l loc = ((Vs.d0, (xi : Int)), E) from HRP.out.trans (HPEI.out hE))
              have d1 : (E != 0) = true := by rw [bne_iff_ne]; exact hE
              have HPX3 := Lib.hid (HPX2.out.grown hpr.grown (fun r e => by cases e; omega))
              have c1 := hpr.grown.cell ((cell_of_row _ _ 1 _ _ _ HXN.out).trans (by rfl)) (fun e => by have h : xg = db := Option.some.inj e; omega)
              clear hdz hpr hei hE
              have hbd : Below w13.heap.size w13 w13.drew := (Below.refl _ _).drew
              have HPX4 := Lib.hid (HPX3.out.below hbd)
              have hst := Vs.run_put (P := Tryz.prog) HPX4.out.hr Z rfl HZ1.out
              have c2 := (hbd.cell (p := ⟨xg, 1, none⟩) (World.block_lt_of_cell? _ _ c1)).trans c1
              have HC2 := Lib.hid c2
              have HOUT := Lib.hid (HPX4.out.out (X := Z) rfl)
              have HSN := Lib.hid (show (w13.drew.setCells w.heap.size 0 Z.toList).heap[w.heap.size + 1]? = some (.cells Z 46 (0, 0)) from Vs.heap_put_other _ _ (by omega) HPX4.out.hn)
              have HSC3 := Lib.hid ((World.cell?_setCells_out w.heap.size Z.toList 0 w13.drew ⟨xg, 1, none⟩ (fun h _ => absurd (show xg = w.heap.size from h) (by omega))).trans c2)
              clear hbd c1 c2
              go_upto_region 39 with fail
              refine wp_region_held_drew (S := fun w' => w'.heap[w.heap.size]? = some (.cells Z 46 (0, 0)) ∧ w'.heap[w.heap.size + 1]? = some (.cells Z 46 (0, 0)) ∧ w'.cell? ⟨xg, 1, none⟩ = some (.int .i64 (xi : Int))) (by kernel_rfl) ⟨HPX4.out.hr, HPX4.out.hn, HC2.out⟩ (fun hHeld => ?_)
              refine wpAnyH_take (i := 0) (oi := _) (v := .agg Z) rfl (by kernel_rfl) (by kernel_rfl) (by kernel_rfl) (fun _ _ _ h => h) (yields_load (by rfl) 46 (.tmp 7) rfl (w.heap.size + 1) 0 rfl _ (fun w' hS => Vs.box_load Vs.d0 HZ.out hS.2.1)) hHeld ?_
              simp only [List.getElem_toArray, List.getElem_cons_zero, Act.put, List.setIfInBounds_toArray, List.set_cons_zero, List.set_cons_succ]
              refine wpAnyH_take (i := 1) (oi := _) (v := .pointer (some ⟨xg, 1, none⟩)) rfl (by kernel_rfl) (by kernel_rfl) (by kernel_rfl) (fun _ _ _ h => h) (Or.inl ⟨by rfl, fun w' hS => by go_simp⟩) hHeld ?_
              simp only [List.getElem_toArray, List.getElem_cons_succ, List.getElem_cons_zero, Act.put, List.setIfInBounds_toArray, List.set_cons_zero, List.set_cons_succ]
              refine wpAnyH_take (i := 2) (oi := _) (v := .int .i64 (xi : Int)) rfl (by kernel_rfl) (by kernel_rfl) (by kernel_rfl) (fun _ _ _ h => h) (Or.inl ⟨by rfl, fun w' hS => by have hc := hS.2.2; go_simp⟩) hHeld ?_
              simp only [List.getElem_toArray, List.getElem_cons_succ, List.getElem_cons_zero, Act.put, List.setIfInBounds_toArray, List.set_cons_zero, List.set_cons_succ]
              refine wpAnyH_take (i := 3) (oi := _) (v := .int .i64 E) rfl (by kernel_rfl) (by kernel_rfl) (by kernel_rfl) (fun _ _ _ h => h) (Or.inl ⟨by rfl, fun w' hS => by go_simp⟩) hHeld ?_
              simp only [List.getElem_toArray, List.getElem_cons_succ, List.getElem_cons_zero, Act.put, List.setIfInBounds_toArray, List.set_cons_zero, List.set_cons_succ]
              refine wpAnyH_ready (rs := [4]) (by kernel_rfl) (by simp) ?_
              refine AllReadyH.cons (o := _) rfl (fun K hK => ?_) AllReadyH.nil
              rw [if_pos (by rfl)]
              go_simp
              refine hK.out _ _ ⟨HOUT.out.1, HSN.out, HSC3.out⟩ (fun hHeld2 => ?_)
              clear hK
              refine wpAnyH_take (i := 5) (oi := _) (v := .int .i64 (xi : Int)) rfl (by kernel_rfl) (by kernel_rfl) (by kernel_rfl) (fun _ _ _ h => h) (Or.inl ⟨by rfl, fun w' hS => by go_simp⟩) hHeld2 ?_
              simp only [List.getElem_toArray, List.getElem_cons_succ, List.getElem_cons_zero, Act.put, List.setIfInBounds_toArray, List.set_cons_zero, List.set_cons_succ]
              refine wpAnyH_take (i := 6) (oi := _) (v := .int .i64 E) rfl (by kernel_rfl) (by kernel_rfl) (by kernel_rfl) (fun _ _ _ h => h) (Or.inl ⟨by rfl, fun w' hS => by go_simp⟩) hHeld2 ?_
              simp only [List.getElem_toArray, List.getElem_cons_succ, List.getElem_cons_zero, Act.put, List.setIfInBounds_toArray, List.set_cons_zero, List.set_cons_succ]
              refine ⟨by kernel_rfl, ?_⟩
              go_wp2_with fail
              exact bodyPost_ret (v := .tuple #[.agg Z, .int .i64 (xi : Int), .int .i64 E]) (res_ctt rfl _ _ w.heap.size 46 Z (0, 0) _ rfl HOUT.out.1 Tryz.underlying46 rfl HZI.out _ _ rfl rfl) rfl ⟨by rw [HRE.out, HZ.out], HOUT.out.2⟩
          · obtain rfl : i = 3 := by omega
            have HRE := Lib.hid (HRP.out.trans (HPO.out (fun j hj => HEZ.out j hj)))
            obtain ⟨X, hX⟩ : ∃ X, X = Vs.dC (Vs.dI a b c' 3) := ⟨_, rfl⟩
            have HXE := Lib.hid hX
            have HX1 := Lib.hid (show X.all (·.oneCell') = true by rw [hX]; exact Vs.dC_one _)
            have HXI := Lib.hid (show (Tryz.prog.info? 46).map (·.size) = some X.size by rw [hX]; exact Vs.zC_info)
            have hx22 : X.size = 22 := by rw [hX]; rfl
            have HDX := Lib.hid (show wr.heap[db]? = some (.cells X 46 (0, 0)) by rw [hX]; exact HDI.out)
            have HLD := Lib.hid (Vs.box_load _ hX HDX.out)
            have hst := Vs.run_put (P := Tryz.prog) HPX.out.hr X (by rw [hz22, hx22]) HX1.out
            have HOUT := Lib.hid (HPX.out.out (X := X) (by rw [hz22, hx22]))
            clear hX
            go_wp2_with (refine wpList_load_at 46 _ rfl db 0 rfl _ HLD.out (by rfl) ?_)
            exact bodyPost_ret (v := .tuple #[.agg X, .int .i64 0, .int .i64 0]) (res_ctt rfl _ _ w.heap.size 46 X (0, 0) _ rfl HOUT.out.1 Tryz.underlying46 rfl HXI.out _ _ rfl rfl) rfl ⟨by rw [HRE.out, HXE.out], HOUT.out.2⟩
/-- ParseSequence. -/
theorem pseq_any (v : Value) (l : List ByteArray) (loc : Int) (w : World) (m : Int) (hv : Kit.Row w v (Vs.strs l)) (hT : Lib.Utf8Tabs 1 2 w) (hM : w.cell? ⟨0, 0, none⟩ = some (.int .i64 m)) (hs : ∀ j, j < l.length → (l.getD j ⟨#[]⟩).size ≤ 9223372036854775807) :
    Calls Tryz.prog 26 #[v, .int .i64 loc] w fun e w' => e = .returned (.tuple #[.agg (Vs.dC (Vs.parR l loc).1.1), .int .i64 (Vs.parR l loc).1.2, .int .i64 (Vs.parR l loc).2]) ∧ Below w.heap.size w w' := by
  cases hw : Vs.word loc with
  | false => exact pseq_range v l loc w hw
  | true =>
    by_cases hl : 1024 < l.length
    · exact pseq_many v l loc w hv hw hl
    · exact pseq_main v l loc w m hv hT hM hs hw hl
end Go.Proofs.YthkppbimkjmbnaaGreatDoor

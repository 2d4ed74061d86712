/-
  The walk through VolumeseqReturns.
-/
import Derived.Test.YthkppbimkjmbnaaGreatDoorZd
import Derived.Test.YthkppbimkjmbnaaGreatDoorZf
import Derived.Test.YthkppbimkjmbnaaGreatDoorZR
namespace Go.Proofs.YthkppbimkjmbnaaGreatDoor
open Go.RowKit Go.Maps
open Vs (bs by_)
namespace Vs
/-- Reading gives what was written, whatever stands behind the terminating descriptor. -/
theorem par_behind {d : D} {loc : Int} (h : seqE d loc = 0) (b c : ByteArray) : parR (((seqR d loc).set 5 b).set 15 c) loc = ((keptD d, 0), 0) := by
  obtain ⟨h1, h2, h3⟩ := seqE_zero h
  rw [seqR_zero h]
  have := par_seq h1 (loc := loc.toNat) (by omega) ([b] ++ (List.replicate 9 (bs (z 2048)) ++ [c])) (by simp)
  rw [Int.toNat_of_nonneg h2] at this
  exact this
end Vs
/-- The regions of VolumeseqReturns that draw. -/
noncomputable def rtA : Array Oper := Sg.opsOf Tryz.f6 11
noncomputable def rtB : Array Oper := Sg.opsOf Tryz.f6 15
theorem rtA_back : Sg.back rtA = true := by kernel_rfl
theorem rtA_sz : rtA.size = 11 + 1 := by kernel_rfl
theorem rtA_g6 : Sg.gate rtA 6 = true := by kernel_rfl
theorem rtA_g10 : Sg.gate rtA 10 = true := by kernel_rfl
theorem rtA_g11 : Sg.gate rtA 11 = true := by kernel_rfl
theorem rtA_lt6 : 6 < rtA.size := by rw [rtA_sz]; decide
theorem rtA_lt10 : 10 < rtA.size := by rw [rtA_sz]; decide
theorem rtA_lt11 : 11 < rtA.size := by rw [rtA_sz]; decide
theorem rtB_back : Sg.back rtB = true := by kernel_rfl
theorem rtB_sz : rtB.size = 12 + 1 := by kernel_rfl
theorem rtB_g6 : Sg.gate rtB 6 = true := by kernel_rfl
theorem rtB_g10 : Sg.gate rtB 10 = true := by kernel_rfl
theorem rtB_g12 : Sg.gate rtB 12 = true := by kernel_rfl
theorem rtB_lt6 : 6 < rtB.size := by rw [rtB_sz]; decide
theorem rtB_lt10 : 10 < rtB.size := by rw [rtB_sz]; decide
theorem rtB_lt12 : 12 < rtB.size := by rw [rtB_sz]; decide
/-- A row of strings with one of them put in place. -/
theorem row_set {w : World} {g cap : Nat} {l : List ByteArray} (h : Kit.Row w (.slice (some ⟨g, 0, none⟩) l.length cap) (Vs.strs l)) (i : Nat) (hi : i < l.length) (s : ByteArray) : Kit.Row (w.setCell ⟨g, i, none⟩ (.string s)) (.slice (some ⟨g, 0, none⟩) (l.set i s).length cap) (Vs.strs (l.set i s)) := by
  obtain ⟨A, c, hv, h1, h2, h3⟩ := h
  rw [Vs.strs_len] at hv h1 h3
  obtain ⟨b, o, hA, hb, hc⟩ := h3 (by omega)
  subst hA
  obtain ⟨⟨rfl, rfl⟩, rfl⟩ : (g = b ∧ 0 = o) ∧ cap = c := by simpa using hv
  refine ⟨some ⟨g, 0, none⟩, cap, by rw [Vs.strs_len], by rw [Vs.strs_len, List.length_set]; exact h1, h2, fun _ => ⟨g, 0, rfl, by simpa using hb, fun j u hu => ?_⟩⟩
  rw [Nat.zero_add]
  have hcell := fun j u hu => (hc j u hu)
  by_cases hj : i = j
  · subst hj
    have h0 := hc i (.string (l[i])) (by simp [Vs.strs, hi])
    rw [Nat.zero_add] at h0
    rw [World.cell?_setCell_same _ _ _ h0]
    simp [Vs.strs, hi] at hu
    rw [hu]
  · rw [World.cell?_setCell_other _ _ _ _ (by simp)]
    have := hc j u (by simpa [Vs.strs, List.getElem?_set_ne hj] using hu)
    rwa [Nat.zero_add] at this

set_option maxHeartbeats 12800000 in
set_option maxRecDepth 100000 in
/-- VolumeseqReturns. -/
theorem lawReturns_any (d : Vs.D) (loc : Int) (s2 : ByteArray) (w : World) (m : Int) (hT : Lib.Utf8Tabs 1 2 w) (hM : w.cell? ⟨0, 0, none⟩ = some (.int .i64 m)) :
    Calls Tryz.prog 6 #[.agg (Vs.dC d), .int .i64 loc, .string s2] w fun e w' => e = .returned (.bool true) ∧ Below w.heap.size w w' := by
  have HT := Lib.hid hT
  have HM := Lib.hid hM
  have CA := Lib.hid (fun W h1 h2 => awake_any W m h1 h2)
  have CF := Lib.hid (fun W => few_any d W)
  have HFI := Lib.hid (Vs.fewB_iff d)
  have hz22 : (Vs.dC d).size = 22 := rfl
  have HB0 := Lib.hid ((Below.refl w.heap.size w).alloc (Nat.le_refl _) (.cells (Vs.dC d) 46))
  have HN0 := Lib.hid (heap_alloc_new w (.cells (Vs.dC d) 46))
  have CS := Lib.hid (fun W h a b c => seq_any d loc W h a b c)
  have CK0 := Lib.hid (fun W h => kept_any d W h)
  have CP := Lib.hid (fun v W h1 h2 h3 => pseq_any v (Vs.seqR d loc) loc W m h1 h2 h3 (fun j hj => by rw [Vs.seqR_size j hj]; decide))
  obtain ⟨Z, hZ⟩ : ∃ Z, Z = Vs.dC d := ⟨_, rfl⟩
  have HZD := Lib.hid hZ
  obtain ⟨K, hK⟩ : ∃ K, K = Vs.dC (Vs.keptD d) := ⟨_, rfl⟩
  have HKD := Lib.hid hK
  have hk22 : K.size = 22 := by rw [hK]; rfl
  have HK1 := Lib.hid (show K.all (·.oneCell') = true by rw [hK]; exact Vs.dC_one _)
  have HEQ := Lib.hid (show ∀ W : World, (Op.equalIn 10000 46 (.agg K) (.agg K)).run Tryz.prog W = .ok true W from fun W => by rw [hK]; exact eqIn_refl _ W)
  rw [← hZ] at CF HB0 HN0 CS CK0 hz22
  rw [← hZ]
  rw [← hK] at CK0
  clear hT hM hZ hK
  go_enter Tryz.func6, Tryz.ntmps6
  go_wp2_with fail
  generalize w.alloc (.cells Z 46) = w0 at *
  with_reducible refine (CA.out _ (Kit.tabs_below HT.out HB0.out) ((HB0.out.cell (p := ⟨0, 0, none⟩) (World.block_lt_of_cell? _ _ HM.out)).trans HM.out)).mono ?_
  rintro e w1 ⟨rfl, hb1⟩
  have HB1 := Lib.hid (HB0.out.trans (hb1.mono HB0.out.size))
  have HN1 := Lib.hid ((hb1.block w.heap.size (Array.getElem?_eq_some_iff.1 HN0.out).1).trans HN0.out)
  have HL1 := Lib.hid (Vs.box_load d HZD.out HN1.out)
  clear hb1 HB0 HN0
  go_wp2_with (refine wpList_load_at 46 _ rfl w.heap.size 0 rfl _ (HL1.out) (by rfl) ?_)
  with_reducible refine (CF.out _).mono ?_
  rintro e w2 ⟨rfl, hb2⟩
  have HB2 := Lib.hid (HB1.out.trans (hb2.mono HB1.out.size))
  have HN2 := Lib.hid ((hb2.block w.heap.size (Array.getElem?_eq_some_iff.1 HN1.out).1).trans HN1.out)
  have HL2 := Lib.hid (Vs.box_load d HZD.out HN2.out)
  clear hb2 HB1 HN1 HL1
  cases hfew : Vs.fewB d with
  | false =>
    rw [hfew] at *
    go_wp2_with fail
    go_ret
    exact ⟨rfl, HB2.out⟩
  | true =>
    obtain ⟨a1, a2, a3⟩ := HFI.out.1 hfew
    have CS2 := Lib.hid (fun W h => CS.out W h (by omega) (by omega) (by omega))
    have CK := Lib.hid (fun W => CK0.out W (by omega))
    clear CS CK0 a1 a2 a3
    rw [hfew] at *
    by_cases hs2 : s2.size ≤ 2100
    case neg =>
      have d1 : decide ((2100 : Int) < (s2.size : Int)) = true := decide_eq_true (by omega)
      go_wp2_with fail
      go_ret
      exact ⟨rfl, HB2.out⟩
    have d1 : decide ((2100 : Int) < (s2.size : Int)) = false := decide_eq_false (by omega)
    go_wp2_with (refine wpList_load_at 46 _ rfl w.heap.size 0 rfl _ (HL2.out) (by rfl) ?_)
    with_reducible refine (CS2.out _ (Kit.tabs_below HT.out HB2.out)).mono ?_
    rintro e w3 ⟨v, rfl, ho3, hb3⟩
    have HB3 := Lib.hid (HB2.out.trans (hb3.mono HB2.out.size))
    have HN3 := Lib.hid ((hb3.block w.heap.size (Array.getElem?_eq_some_iff.1 HN2.out).1).trans HN2.out)
    have hw2 : w.heap.size < w2.heap.size := (Array.getElem?_eq_some_iff.1 HN2.out).1
    clear hb3 HN2 HL2
    by_cases he : Vs.seqE d loc = 0
    case neg =>
      have d2 : (Vs.seqE d loc != 0) = true := by rw [bne_iff_ne]; exact he
      have hr := Vs.seqR_err he
      rw [hr] at ho3
      obtain ⟨A, c, rfl⟩ := own_shape ho3
      clear he
      generalize Vs.seqE d loc = E at *
      simp only [List.length_nil]
      go_wp2_with fail
      go_ret
      exact ⟨rfl, HB3.out⟩
    have hlen : (Vs.seqR d loc).length = 16 := by rw [Vs.seqR_zero he]; rfl
    have hpb := Vs.par_behind he s2 ⟨#[33]⟩
    have hpr := Vs.par_seqR he
    have HSZ := Lib.hid (fun j (hj : j < (Vs.seqR d loc).length) => Vs.seqR_size (d := d) (loc := loc) j hj)
    rw [hpr] at CP
    simp only [] at CP
    rw [← HKD.out] at CP
    have CP2 := Lib.hid (fun v W h1 h2 h3 => pseq_any v (((Vs.seqR d loc).set 5 s2).set 15 ⟨#[33]⟩) loc W m h1 h2 h3 (fun j hj => by
      rw [List.length_set, List.length_set] at hj
      rw [List.getD_eq_getElem?_getD, List.getElem?_set]
      split
      · rw [if_pos (by rw [List.length_set]; omega)]; decide
      · rw [List.getElem?_set]
        split
        · rw [if_pos (by omega)]
          exact Nat.le_trans hs2 (by decide)
        · rw [← List.getD_eq_getElem?_getD, HSZ.out j hj]
          decide))
    rw [hpb] at CP2
    simp only [] at CP2
    rw [← HKD.out] at CP2
    rw [he] at *
    clear he hpb hpr HSZ hs2
    generalize Vs.seqR d loc = SL at *
    rw [hlen] at ho3
    obtain ⟨g, cap, rfl⟩ := Vs.own_head (n := 15) ho3
    have hgo := ho3.lt g rfl
    have HR3 := Lib.hid (Kit.Row.of_own ho3)
    have HF3 := Lib.hid (fun j => ho3.frozenAt j)
    have HG3 := Lib.hid hgo
    clear ho3 hgo
    go_wp2_with fail
    with_reducible refine (CP.out _ w3 HR3.out (Kit.tabs_below HT.out HB3.out) ((HB3.out.cell (p := ⟨0, 0, none⟩) (World.block_lt_of_cell? _ _ HM.out)).trans HM.out)).mono ?_
    rintro e w4 ⟨rfl, hb4⟩
    have hs34 := hb4.size
    have hgg := HG3.out
    have hst := Vs.run_put (P := Tryz.prog) (heap_alloc_new w4 (.cells #[.string ⟨#[]⟩, .string ⟨#[]⟩, .string ⟨#[]⟩, .string ⟨#[]⟩, .string ⟨#[]⟩, .int .i64 0, .int .i64 0, .int .i64 0, .int .i64 0, .int .i64 0, .int .i64 0, .int .i64 0, .int .i64 0, .int .i64 0, .int .i64 0, .string ⟨#[]⟩, .int .i64 0, .int .i64 0, .int .i64 0, .int .i64 0, .int .i64 0, .int .i64 0] 46)) K (by rw [hk22]; rfl) HK1.out
    have hba := hb4.trans (((Below.refl w4.heap.size w4).alloc (Nat.le_refl _) (.cells #[.string ⟨#[]⟩, .string ⟨#[]⟩, .string ⟨#[]⟩, .string ⟨#[]⟩, .string ⟨#[]⟩, .int .i64 0, .int .i64 0, .int .i64 0, .int .i64 0, .int .i64 0, .int .i64 0, .int .i64 0, .int .i64 0, .int .i64 0, .int .i64 0, .string ⟨#[]⟩, .int .i64 0, .int .i64 0, .int .i64 0, .int .i64 0, .int .i64 0, .int .i64 0] 46)).mono hb4.size)
    have hbp := Vs.below_put (g := w4.heap.size) hb4.size K.toList 0 _ hba
    have HXB := Lib.hid (Vs.row_put (cs := K) (heap_alloc_new w4 (.cells #[.string ⟨#[]⟩, .string ⟨#[]⟩, .string ⟨#[]⟩, .string ⟨#[]⟩, .string ⟨#[]⟩, .int .i64 0, .int .i64 0, .int .i64 0, .int .i64 0, .int .i64 0, .int .i64 0, .int .i64 0, .int .i64 0, .int .i64 0, .int .i64 0, .string ⟨#[]⟩, .int .i64 0, .int .i64 0, .int .i64 0, .int .i64 0, .int .i64 0, .int .i64 0] 46)) (by rw [hk22]; rfl))
    have HZB := Lib.hid ((hbp.block w.heap.size (Array.getElem?_eq_some_iff.1 HN3.out).1).trans HN3.out)
    have HBW := Lib.hid (HB3.out.trans (hbp.mono HB3.out.size))
    have HR5 := Lib.hid (HR3.out.below hbp)
    have HF5 := Lib.hid (show ∀ j, ((w4.alloc (.cells #[.string ⟨#[]⟩, .string ⟨#[]⟩, .string ⟨#[]⟩, .string ⟨#[]⟩, .string ⟨#[]⟩, .int .i64 0, .int .i64 0, .int .i64 0, .int .i64 0, .int .i64 0, .int .i64 0, .int .i64 0, .int .i64 0, .int .i64 0, .int .i64 0, .string ⟨#[]⟩, .int .i64 0, .int .i64 0, .int .i64 0, .int .i64 0, .int .i64 0, .int .i64 0] 46)).setCells w4.heap.size 0 K.toList).frozen? ⟨g, j, none⟩ = false from fun j => (hbp.frozen (p := ⟨g, j, none⟩) hgg.2).trans (HF3.out j))
    have HGL5 := Lib.hid (show g < ((w4.alloc (.cells #[.string ⟨#[]⟩, .string ⟨#[]⟩, .string ⟨#[]⟩, .string ⟨#[]⟩, .string ⟨#[]⟩, .int .i64 0, .int .i64 0, .int .i64 0, .int .i64 0, .int .i64 0, .int .i64 0, .int .i64 0, .int .i64 0, .int .i64 0, .int .i64 0, .string ⟨#[]⟩, .int .i64 0, .int .i64 0, .int .i64 0, .int .i64 0, .int .i64 0, .int .i64 0] 46)).setCells w4.heap.size 0 K.toList).heap.size from Nat.lt_of_lt_of_le hgg.2 hbp.size)
    have HGW := Lib.hid (show w.heap.size ≤ g by omega)
    have HGZ := Lib.hid (show ¬ w.heap.size = g by omega)
    have HGX := Lib.hid (show ¬ w4.heap.size = g by omega)
    have HXG := Lib.hid (show w.heap.size ≤ w4.heap.size by omega)
    have HXZ := Lib.hid (show w.heap.size ≠ w4.heap.size by omega)
    clear hba hbp hgg hb4 hs34 hw2 HR3 HF3 HG3 HN3 HB3
    go_upto_region 11 with fail
    clear hst
    generalize (w4.alloc (.cells #[.string ⟨#[]⟩, .string ⟨#[]⟩, .string ⟨#[]⟩, .string ⟨#[]⟩, .string ⟨#[]⟩, .int .i64 0, .int .i64 0, .int .i64 0, .int .i64 0, .int .i64 0, .int .i64 0, .int .i64 0, .int .i64 0, .int .i64 0, .int .i64 0, .string ⟨#[]⟩, .int .i64 0, .int .i64 0, .int .i64 0, .int .i64 0, .int .i64 0, .int .i64 0] 46)).setCells w4.heap.size 0 K.toList = w5 at *
    generalize w4.heap.size = xg at *
    have HC5 := Lib.hid (show ∀ W, Below w5.heap.size w5 W → ∀ j, j < 16 → W.cell? ⟨g, j, none⟩ = some (.string (SL.getD j ⟨#[]⟩)) from fun W h j hj => by
      obtain ⟨A, c, hv, -, -, hc⟩ := HR5.out.below h
      rw [Vs.strs_len, hlen] at hv hc
      obtain ⟨b, o, hA, -, hcc⟩ := hc (by decide)
      subst hA
      obtain ⟨⟨rfl, rfl⟩, rfl⟩ : (g = b ∧ 0 = o) ∧ cap = c := by simpa using hv
      have := hcc j (.string (SL.getD j ⟨#[]⟩)) (by simp [Vs.strs, List.getD, hlen, hj])
      rwa [Nat.zero_add] at this)
    have HBD := Lib.hid (show Below w5.heap.size w5 w5.drew from (Below.refl _ _).drew)
    have HXB0 := Lib.hid ((HBD.out.block xg (Array.getElem?_eq_some_iff.1 HXB.out).1).trans HXB.out)
    have HZB0 := Lib.hid ((HBD.out.block w.heap.size (Array.getElem?_eq_some_iff.1 HZB.out).1).trans HZB.out)
    have HBY := Lib.hid (HBW.out.trans (HBD.out.mono HBW.out.size))
    have HRY := Lib.hid (HR5.out.below HBD.out)
    have HCY := Lib.hid (show ∀ W, Below w5.drew.heap.size w5.drew W → ∀ j, j < 16 → W.cell? ⟨g, j, none⟩ = some (.string (SL.getD j ⟨#[]⟩)) from fun W h j hj => HC5.out W (HBD.out.trans (h.mono HBD.out.size)) j hj)
    have HFY := Lib.hid (show ∀ j, w5.drew.frozen? ⟨g, j, none⟩ = false from fun j => (HBD.out.frozen (p := ⟨g, j, none⟩) HGL5.out).trans (HF5.out j))
    have HGL := Lib.hid (show g < w5.drew.heap.size from Nat.lt_of_lt_of_le HGL5.out HBD.out.size)
    refine Sg.first (n := 6) (by kernel_rfl) rtA_back rtA_g6 rtA_lt6 (fun _ _ h => h) (Sg.line [0, 1, 2, 3, 4, 5, 6] [_, _, _, _, _, _, _] rfl (by kernel_rfl) rfl ?_)
    clear HBD HXB HZB HBW
    generalize w5.drew = y0 at *
    go_wp2_with fail
    refine Sg.cut (m := 6) (n := 10) [49, 50, 51, 52] (fun vs w' => vs = [.agg K, .agg Z, .agg K, .bool false] ∧ Hid (Below y0.heap.size y0 w')) rtA_back rtA_g6 (by decide) rtA_g10 rtA_lt10 ?_ ?_
    case refine_2 =>
      refine Sg.fork 7 8 _ _ (by kernel_rfl) rfl rfl ?_ ?_
      · have HLX := Lib.hid (Vs.box_load _ HKD.out HXB0.out)
        go_wp2_with (refine wpList_load_at 46 _ rfl xg 0 rfl _ HLX.out (by rfl) ?_)
        have HLZ := Lib.hid (Vs.box_load d HZD.out HZB0.out)
        refine Sg.line [8, 9, 10] [_, _, _] rfl (by kernel_rfl) rfl ?_
        go_wp2_with (refine wpList_load_at 46 _ rfl w.heap.size 0 rfl _ HLZ.out (by rfl) ?_)
        with_reducible refine (CK.out _).mono ?_
        rintro e wq ⟨rfl, hbq⟩
        have HBQ := Lib.hid hbq
        clear hbq
        go_wp2_with (refine wpList_neD _ _ _ rfl K (by rfl) (by rfl) (HEQ.out _) (by rfl) ?_)
        exact ⟨[_, _, _, _], rfl, rfl, HBQ⟩
      · have HLZ := Lib.hid (Vs.box_load d HZD.out HZB0.out)
        go_wp2_with (refine wpList_load_at 46 _ rfl w.heap.size 0 rfl _ HLZ.out (by rfl) ?_)
        refine Sg.fork 7 9 _ _ (by kernel_rfl) rfl rfl ?_ ?_
        · have HLX := Lib.hid (Vs.box_load _ HKD.out HXB0.out)
          go_wp2_with (refine wpList_load_at 46 _ rfl xg 0 rfl _ HLX.out (by rfl) ?_)
          refine Sg.line [9, 10] [_, _] rfl (by kernel_rfl) rfl ?_
          go_wp2_with fail
          with_reducible refine (CK.out _).mono ?_
          rintro e wq ⟨rfl, hbq⟩
          have HBQ := Lib.hid hbq
          clear hbq
          go_wp2_with (refine wpList_neD _ _ _ rfl K (by rfl) (by rfl) (HEQ.out _) (by rfl) ?_)
          exact ⟨[_, _, _, _], rfl, rfl, HBQ⟩
        · go_wp2_with fail
          with_reducible refine (CK.out _).mono ?_
          rintro e wq ⟨rfl, hbq⟩
          have HLX := Lib.hid (Vs.box_load _ HKD.out ((hbq.block xg (Array.getElem?_eq_some_iff.1 HXB0.out).1).trans HXB0.out))
          have HBQ := Lib.hid hbq
          clear hbq
          go_wp2_with fail
          refine Sg.line [7, 10] [_, _] rfl (by kernel_rfl) rfl ?_
          go_wp2_with (first | (refine wpList_load_at 46 _ rfl xg 0 rfl _ HLX.out (by rfl) ?_) | (refine wpList_neD _ _ _ rfl K (by rfl) (by rfl) (HEQ.out _) (by rfl) ?_))
          exact ⟨[_, _, _, _], rfl, rfl, HBQ⟩
    case refine_1 =>
      rintro vs y1 ⟨rfl, hb⟩
      have hby := hb.out
      clear hb
      simp only [Sg.puts, Act.put, List.setIfInBounds_toArray, List.set_cons_zero, List.set_cons_succ]
      refine Sg.run (m := 10) (n := 11) [11] [_] rtA_back rtA_g10 (by decide) rtA_g11 rtA_lt11 rfl (by kernel_rfl) rfl ?_
      go_wp2_with fail
      refine Sg.last rtA_sz ?_
      go_upto_region 13 with fail
      have HBY1 := Lib.hid (HBY.out.trans (hby.mono HBY.out.size))
      have HZB1 := Lib.hid ((hby.block w.heap.size (Array.getElem?_eq_some_iff.1 HZB0.out).1).trans HZB0.out)
      have HXB1 := Lib.hid ((hby.block xg (Array.getElem?_eq_some_iff.1 HXB0.out).1).trans HXB0.out)
      have HRY1 := Lib.hid (HRY.out.below hby)
      have c5 := HCY.out y1 hby 5 (by decide)
      have c15 := HCY.out y1 hby 15 (by decide)
      have f5 := (hby.frozen (p := ⟨g, 5, none⟩) HGL.out).trans (HFY.out 5)
      have f15 := (hby.frozen (p := ⟨g, 15, none⟩) HGL.out).trans (HFY.out 15)
      clear HBY HZB0 HXB0 HRY HCY hby
      have hr5 := row_set (l := SL) (by rw [hlen]; exact HRY1.out) 5 (by rw [hlen]; decide) s2
      have hr15 := row_set hr5 15 (by rw [List.length_set, hlen]; decide) ⟨#[33]⟩
      rw [List.length_set, List.length_set, hlen] at hr15
      have HR15 := Lib.hid hr15
      have HB15 := Lib.hid ((HBY1.out.setCell (p := ⟨g, 5, none⟩) HGW.out (.string s2)).setCell (p := ⟨g, 15, none⟩) HGW.out (.string ⟨#[33]⟩))
      have HZ15 := Lib.hid (show ((y1.setCell ⟨g, 5, none⟩ (.string s2)).setCell ⟨g, 15, none⟩ (.string ⟨#[33]⟩)).heap[w.heap.size]? = some (.cells Z 46 (0, 0)) from (heap_setCell_other _ _ _ _ (by simpa using HGZ.out)).trans ((heap_setCell_other _ _ _ _ (by simpa using HGZ.out)).trans HZB1.out))
      have HX15 := Lib.hid (show ((y1.setCell ⟨g, 5, none⟩ (.string s2)).setCell ⟨g, 15, none⟩ (.string ⟨#[33]⟩)).heap[xg]? = some (.cells K 46 (0, 0)) from (heap_setCell_other _ _ _ _ (by simpa using HGX.out)).trans ((heap_setCell_other _ _ _ _ (by simpa using HGX.out)).trans HXB1.out))
      clear hr5 hr15 HRY1 HZB1 HXB1
      go_upto_region 14 with fail
      clear c5 c15 f5 f15
      generalize (y1.setCell ⟨g, 5, none⟩ (.string s2)).setCell ⟨g, 15, none⟩ (.string ⟨#[33]⟩) = w6 at *
      go_wp2_with fail
      with_reducible refine (CP2.out _ w6 HR15.out (Kit.tabs_below HT.out HB15.out) ((HB15.out.cell (p := ⟨0, 0, none⟩) (World.block_lt_of_cell? _ _ HM.out)).trans HM.out)).mono ?_
      rintro e w7p ⟨rfl, hb7⟩
      have HXP := Lib.hid ((hb7.block xg (Array.getElem?_eq_some_iff.1 HX15.out).1).trans HX15.out)
      have hst := Vs.run_put (P := Tryz.prog) HXP.out K rfl HK1.out
      have HBW := Lib.hid (show Below w.heap.size w (w7p.setCells xg 0 K.toList) from Vs.below_put HXG.out _ _ _ (HB15.out.trans (hb7.mono HB15.out.size)))
      have HZB := Lib.hid (show (w7p.setCells xg 0 K.toList).heap[w.heap.size]? = some (.cells Z 46 (0, 0)) from Vs.heap_put_other _ _ HXZ.out ((hb7.block w.heap.size (Array.getElem?_eq_some_iff.1 HZ15.out).1).trans HZ15.out))
      have HXB := Lib.hid (show (w7p.setCells xg 0 K.toList).heap[xg]? = some (.cells K 46 (0, 0)) from Vs.row_put HXP.out rfl)
      clear hb7 HZ15 HX15 HR15
      go_upto_region 15 with fail
      clear hst HXP
      generalize w7p.setCells xg 0 K.toList = w7 at *
      have HBD := Lib.hid (show Below w7.heap.size w7 w7.drew from (Below.refl _ _).drew)
      have HXB0 := Lib.hid ((HBD.out.block xg (Array.getElem?_eq_some_iff.1 HXB.out).1).trans HXB.out)
      have HZB0 := Lib.hid ((HBD.out.block w.heap.size (Array.getElem?_eq_some_iff.1 HZB.out).1).trans HZB.out)
      have HBY := Lib.hid (HBW.out.trans (HBD.out.mono HBW.out.size))
      refine Sg.first (n := 6) (by kernel_rfl) rtB_back rtB_g6 rtB_lt6 (fun _ _ h => h) (Sg.line [0, 1, 2, 3, 4, 5, 6] [_, _, _, _, _, _, _] rfl (by kernel_rfl) rfl ?_)
      clear HBD HXB HZB HBW
      generalize w7.drew = y0 at *
      go_wp2_with fail
      refine Sg.cut (m := 6) (n := 10) [73, 74, 75, 76] (fun vs w' => vs = [.agg K, .agg Z, .agg K, .bool true] ∧ Hid (Below y0.heap.size y0 w')) rtB_back rtB_g6 (by decide) rtB_g10 rtB_lt10 ?_ ?_
      case refine_2 =>
        refine Sg.fork 7 8 _ _ (by kernel_rfl) rfl rfl ?_ ?_
        · have HLX := Lib.hid (Vs.box_load _ HKD.out HXB0.out)
          go_wp2_with (refine wpList_load_at 46 _ rfl xg 0 rfl _ HLX.out (by rfl) ?_)
          have HLZ := Lib.hid (Vs.box_load d HZD.out HZB0.out)
          refine Sg.line [8, 9, 10] [_, _, _] rfl (by kernel_rfl) rfl ?_
          go_wp2_with (refine wpList_load_at 46 _ rfl w.heap.size 0 rfl _ HLZ.out (by rfl) ?_)
          with_reducible refine (CK.out _).mono ?_
          rintro e wq ⟨rfl, hbq⟩
          have HBQ := Lib.hid hbq
          clear hbq
          go_wp2_with (refine wpList_eqD _ _ _ rfl K (by rfl) (by rfl) (HEQ.out _) (by rfl) ?_)
          exact ⟨[_, _, _, _], rfl, rfl, HBQ⟩
        · have HLZ := Lib.hid (Vs.box_load d HZD.out HZB0.out)
          go_wp2_with (refine wpList_load_at 46 _ rfl w.heap.size 0 rfl _ HLZ.out (by rfl) ?_)
          refine Sg.fork 7 9 _ _ (by kernel_rfl) rfl rfl ?_ ?_
          · have HLX := Lib.hid (Vs.box_load _ HKD.out HXB0.out)
            go_wp2_with (refine wpList_load_at 46 _ rfl xg 0 rfl _ HLX.out (by rfl) ?_)
            refine Sg.line [9, 10] [_, _] rfl (by kernel_rfl) rfl ?_
            go_wp2_with fail
            with_reducible refine (CK.out _).mono ?_
            rintro e wq ⟨rfl, hbq⟩
            have HBQ := Lib.hid hbq
            clear hbq
            go_wp2_with (refine wpList_eqD _ _ _ rfl K (by rfl) (by rfl) (HEQ.out _) (by rfl) ?_)
            exact ⟨[_, _, _, _], rfl, rfl, HBQ⟩
          · go_wp2_with fail
            with_reducible refine (CK.out _).mono ?_
            rintro e wq ⟨rfl, hbq⟩
            have HLX := Lib.hid (Vs.box_load _ HKD.out ((hbq.block xg (Array.getElem?_eq_some_iff.1 HXB0.out).1).trans HXB0.out))
            have HBQ := Lib.hid hbq
            clear hbq
            go_wp2_with fail
            refine Sg.line [7, 10] [_, _] rfl (by kernel_rfl) rfl ?_
            go_wp2_with (first | (refine wpList_load_at 46 _ rfl xg 0 rfl _ HLX.out (by rfl) ?_) | (refine wpList_eqD _ _ _ rfl K (by rfl) (by rfl) (HEQ.out _) (by rfl) ?_))
            exact ⟨[_, _, _, _], rfl, rfl, HBQ⟩
      case refine_1 =>
        rintro vs y1 ⟨rfl, hb⟩
        have hby := hb.out
        clear hb
        simp only [Sg.puts, Act.put, List.setIfInBounds_toArray, List.set_cons_zero, List.set_cons_succ]
        refine Sg.run (m := 10) (n := 12) [11, 12] [_, _] rtB_back rtB_g10 (by decide) rtB_g12 rtB_lt12 rfl (by kernel_rfl) rfl ?_
        go_wp2_with fail
        refine Sg.last rtB_sz ?_
        go_wp2_with fail
        go_ret
        exact ⟨rfl, HBY.out.trans (hby.mono HBY.out.size)⟩
end Go.Proofs.YthkppbimkjmbnaaGreatDoor

/-
  The walks through volumeseq.set and FileSet.
-/
namespace Go.Proofs.YthkppbimkjmbnaaGreatDoor
open Go.RowKit
open Vs (bs by_)
namespace Vs
/-- The cells of a file set's contents. -/
def fsC (f : Fs) : Array Value := #[.int .i64 f.num, .int .i64 f.time, .string f.name, .int .i64 f.rb, .int .i64 f.rp]
theorem fset_fills (f : Fs) (h : okFs f = true) (s1 : f.name.size ≤ 9223372036854775807) : ∃ L, bodyL L 496 = fsL f ∧ ∀ (W : World) (fb : Nat), W.heap[fb]? = some (.cells #[.int .i64 f.num, .int .i64 f.time, .string f.name, .int .i64 f.rb, .int .i64 f.rp] 65 (0, 0)) → Lib.Utf8Tabs 1 2 W → Fills 97 #[.pointer (some ⟨fb, 0, none⟩)] W L := by
  obtain ⟨h1, h2, h3, h4, h5, h6⟩ := (okFs_iff f).1 h
  have hn := named_text h6
  exact ⟨_, body_fs f (stampR_len h5) (fld128 hn) (fld32 hn), fun W fb q1 q2 => fillSet_any W fb f h s1 q1 q2⟩
end Vs

set_option maxHeartbeats 6400000 in
set_option maxRecDepth 100000 in
/-- set. -/
theorem vSet_any (f : Vs.Fs) (w : World) (hT : Lib.Utf8Tabs 1 2 w) (s1 : f.name.size ≤ 9223372036854775807) :
    Calls Tryz.prog 96 #[.agg (Vs.fsC f)] w fun e w' => e = .returned (.bool (Vs.okFs f)) ∧ Below w.heap.size w w' := by
  have C1 := Lib.hid (fun W => word_any f.num W)
  have C2 := Lib.hid (fun W => word_any f.rb W)
  have C3 := Lib.hid (fun W => timed_any f.time W)
  have C4 := Lib.hid (fun W (h : Lib.Utf8Tabs 1 2 W) => vNamed_any f.name W h s1)
  have HI := Lib.hid (Vs.okFs_iff f)
  have HB := Lib.hid ((Below.refl w.heap.size w).alloc (Nat.le_refl _) (.cells (Vs.fsC f) 65))
  have HT := Lib.hid (Kit.tabs_below hT HB.out)
  clear hT
  obtain ⟨num, tm, name, rb, rp⟩ := f
  unfold Vs.fsC at *
  simp only [] at *
  generalize Vs.okFs ⟨num, tm, name, rb, rp⟩ = R at *
  generalize Vs.word num = b1 at *
  generalize Vs.word rb = b2 at *
  generalize Vs.isTime tm = b3 at *
  generalize Vs.namedB (by_ name) = b4 at *
  have hcs : (b1 = false) ∨ (b1 = true ∧ b2 = false) ∨ (b1 = true ∧ b2 = true ∧ rp < 0) ∨ (b1 = true ∧ b2 = true ∧ 0 ≤ rp ∧ 65535 < rp) ∨ (b1 = true ∧ b2 = true ∧ 0 ≤ rp ∧ rp ≤ 65535 ∧ b3 = false) ∨ (b1 = true ∧ b2 = true ∧ 0 ≤ rp ∧ rp ≤ 65535 ∧ b3 = true) := by
    cases b1 <;> cases b2 <;> cases b3 <;> simp <;> omega
  rcases hcs with h | ⟨h, h2⟩ | ⟨h, h2, h3⟩ | ⟨h, h2, h3, h4⟩ | ⟨h, h2, h3, h4, h5⟩ | ⟨h, h2, h3, h4, h5⟩
  case inr.inr.inr.inr.inr =>
    subst h h2 h5
    have HV := Lib.hid (show R = b4 by
      rw [Bool.eq_iff_iff, HI.out]
      exact ⟨fun g => g.2.2.2.2.2, fun g => ⟨rfl, rfl, h3, h4, rfl, g⟩⟩)
    clear HI
    go_enter Tryz.func96, Tryz.ntmps96
    go_wp2_with (first | (with_reducible refine (C1.out _).mono ?_; rintro e wx ⟨rfl, hw⟩; subst hw) | (with_reducible refine (C2.out _).mono ?_; rintro e wx ⟨rfl, hw⟩; subst hw) | (with_reducible refine (C3.out _).mono ?_; rintro e wx ⟨rfl, hw⟩; subst hw))
    with_reducible refine (C4.out _ HT.out).mono ?_
    rintro e w2 ⟨rfl, hb2⟩
    have HB2 := Lib.hid (HB.out.trans (hb2.mono HB.out.size))
    clear hb2
    go_wp2_with fail
    go_ret
    rw [HV.out]
    exact ⟨rfl, HB2.out⟩
  all_goals
    have HV := Lib.hid (show R = false by
      rw [Bool.eq_false_iff]
      intro g
      obtain ⟨g1, g2, g3, g4, g5, g6⟩ := HI.out.1 g
      first
        | omega
        | exact absurd (h.symm.trans g1) (by decide)
        | exact absurd (h2.symm.trans g2) (by decide)
        | exact absurd (h5.symm.trans g5) (by decide))
    try subst h
    try subst h2
    try subst h5
    clear HI
    go_enter Tryz.func96, Tryz.ntmps96
    go_wp2_with (first | (with_reducible refine (C1.out _).mono ?_; rintro e wx ⟨rfl, hw⟩; subst hw) | (with_reducible refine (C2.out _).mono ?_; rintro e wx ⟨rfl, hw⟩; subst hw) | (with_reducible refine (C3.out _).mono ?_; rintro e wx ⟨rfl, hw⟩; subst hw))
    go_ret
    rw [HV.out]
    exact ⟨rfl, HB.out⟩

set_option maxHeartbeats 6400000 in
set_option maxRecDepth 100000 in
/-- FileSet. -/
theorem vFileSet_any (f : Vs.Fs) (loc : Int) (w : World) (hT : Lib.Utf8Tabs 1 2 w) (s1 : f.name.size ≤ 9223372036854775807) :
    Calls Tryz.prog 32 #[.agg (Vs.fsC f), .int .i64 loc] w fun e w' => e = .returned (.tuple #[.string (bs (Vs.fsetR f loc).1), .int .i64 (Vs.fsetR f loc).2]) ∧ Below w.heap.size w w' := by
  have CW := Lib.hid (fun W => word_any loc W)
  have CS := Lib.hid (fun W (h : Lib.Utf8Tabs 1 2 W) => vSet_any f W h s1)
  have HR := Lib.hid (show Vs.fsetR f loc = if Vs.word loc = true then (if Vs.okFs f = true then (Vs.blk 256 1 loc.toNat (Vs.fsL f), 0) else ([], 1)) else ([], 2) from rfl)
  have HF := Lib.hid (fun h => And.intro (Vs.fset_fills f h s1) (Vs.fs_len h))
  have HWL := Lib.hid (Vs.word_iff loc)
  have HB := Lib.hid ((Below.refl w.heap.size w).alloc (Nat.le_refl _) (.cells (Vs.fsC f) 65))
  have HN := Lib.hid (heap_alloc_new w (.cells (Vs.fsC f) 65))
  have HTW := Lib.hid (fun W (h : Below w.heap.size w W) => Kit.tabs_below hT h)
  clear hT
  generalize Vs.fsetR f loc = RR at *
  generalize Vs.fsL f = FL at *
  obtain ⟨num, tm, name, rb, rp⟩ := f
  unfold Vs.fsC at *
  simp only [] at *
  generalize Vs.okFs ⟨num, tm, name, rb, rp⟩ = ok at *
  cases hwl : Vs.word loc with
  | false =>
    rw [hwl] at CW
    have HR2 := Lib.hid (HR.out.trans (if_neg (by rw [hwl]; decide)))
    rw [HR2.out]
    clear HR HR2 HF HWL hwl
    go_enter Tryz.func32, Tryz.ntmps32
    go_wp2_with (with_reducible refine (CW.out _).mono ?_; rintro e wx ⟨rfl, hw⟩; subst hw)
    go_ret2
    exact ⟨rfl, HB.out⟩
  | true =>
  rw [hwl] at CW
  have HR1 := Lib.hid (HR.out.trans (if_pos hwl))
  cases ok with
  | false =>
    have HR2 := Lib.hid (HR1.out.trans (if_neg (by decide)))
    rw [HR2.out]
    clear HR HR1 HR2 HF HWL hwl
    go_enter Tryz.func32, Tryz.ntmps32
    go_wp2_with (with_reducible refine (CW.out _).mono ?_; rintro e wx ⟨rfl, hw⟩; subst hw)
    with_reducible refine (CS.out _ (HTW.out _ HB.out)).mono ?_
    rintro e w2 ⟨rfl, hb2⟩
    have HB2 := Lib.hid (HB.out.trans (hb2.mono HB.out.size))
    clear hb2
    go_wp2_with fail
    go_ret2
    exact ⟨rfl, HB2.out⟩
  | true =>
    have HR2 := Lib.hid (HR1.out.trans (if_pos rfl))
    obtain ⟨⟨L, hL, hfl⟩, hlen⟩ := HF.out rfl
    obtain ⟨hl0, hl1⟩ := HWL.out.1 hwl
    obtain ⟨N, hN⟩ : ∃ N : Nat, loc = N := ⟨loc.toNat, by omega⟩
    subst hN
    rw [HR2.out, Int.toNat_natCast]
    have G := Lib.hid hfl
    have HLE := Lib.hid hL
    have CB := Lib.hid (fun W bl (hbl : bl = FL) => block_any 256 1 (N : Int) (bs bl) W (by rw [hbl, Vs.bs_size, hlen]; decide))
    have HBB := Lib.hid (show Vs.blockR 256 1 (N : Int) FL = (Vs.blk 256 1 N FL, 0) from Vs.blockR_ok (id := 256) (ser := 1) (by decide) (by decide) (by omega) (by rw [hlen]; decide))
    clear HR HR1 HR2 HF HWL hwl hL hfl hlen
    go_enter Tryz.func32, Tryz.ntmps32
    go_wp2_with (with_reducible refine (CW.out _).mono ?_; rintro e wx ⟨rfl, hw⟩; subst hw)
    with_reducible refine (CS.out _ (HTW.out _ HB.out)).mono ?_
    rintro e w2 ⟨rfl, hb2⟩
    have HB2 := Lib.hid (HB.out.trans (hb2.mono HB.out.size))
    have HN2 := Lib.hid ((hb2.block w.heap.size (by simp)).trans HN.out)
    clear hb2
    go_wp2_with fail
    refine (body_any 496 496 rfl _ _ L _ (G.out _ _ HN2.out (HTW.out _ HB2.out)) (by decide)).mono ?_
    rintro e w3 ⟨rfl, hb3⟩
    have HB3 := Lib.hid (HB2.out.trans (hb3.mono HB2.out.size))
    clear hb3
    rw [HLE.out]
    go_wp2_with fail
    refine (CB.out _ _ rfl).mono ?_
    rintro e w4 ⟨rfl, hb4⟩
    have HB4 := Lib.hid (HB3.out.trans (hb4.mono HB3.out.size))
    clear hb4
    rw [Vs.by_bs, HBB.out]
    go_wp2_with fail
    go_ret2
    exact ⟨rfl, HB4.out⟩
end Go.Proofs.YthkppbimkjmbnaaGreatDoor

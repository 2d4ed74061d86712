/-
  The reference's recovered, Recover.
-/
import Derived.Test.YtlhechlbmbjffaaDoorRa
import Derived.Test.YtlhechlbmbjffaaDoorRd
import Derived.Test.YtlhechlbmbjffaaDoorJp
import Derived.Test.YtlhechlbmbjffaaDoorJt
import Derived.BigQuiet
namespace Go.Proofs.YtlhechlbmbjffaaDoor
open Go.RowKit

set_option maxHeartbeats 12800000 in
set_option maxRecDepth 100000 in
/-- masterdiscref56.recovered. -/
theorem rRecovered_any (v u : Value) (img : List ByteArray) (fs : List Lm.F) (q : ByteArray) (w : World) (hm : Lm.Strs w v img) (hf : Lm.Files w u fs) (hall : fs.all Lm.okF = true) (h50 : fs.length ≤ 1024) (hps : ∀ j, j < fs.length → (fs.getD j Lm.f0).path.size ≤ 500) :
    Calls Tryd.prog 38 #[v, u, .string q] w fun e w' => e = .returned (.string ⟨(Lm.recR img fs q).toArray⟩) ∧ w = w' := by
  have HM := Lib.hid hm
  have HPS := Lib.hid hps
  have HALL := Lib.hid hall
  obtain ⟨A, c, rfl, hlc, hcm⟩ := Lm.Strs.shape hm
  obtain ⟨B, d, rfl, hld, hdm, hce⟩ := hf
  have HCE := Lib.hid hce
  clear hce hm hps hall
  unfold maxLen at hcm hdm
  go_enter Tryd.func38, Tryd.ntmps38
  go_wp2_with fail
  go_loop [7, 8, 9, 10] (fun sv kv _ _ => ∃ j : Nat, j ≤ fs.length ∧ kv = .int .i64 j ∧ sv = .string ⟨(Lm.bytR img fs q j).toArray⟩) (fun _ kv _ _ => fs.length - (intOf kv).toNat)
  case atStart => exact ⟨0, Nat.zero_le _, rfl, rfl⟩
  case round =>
    obtain ⟨j, hj, rfl, rfl⟩ := hrel
    by_cases hlt : j < fs.length
    · obtain ⟨b, o, rfl, hbl, hc⟩ := HCE.out (by omega)
      have c0 := hc j hlt 0 _ rfl
      have c1 := hc j hlt 1 _ rfl
      have c2 := hc j hlt 2 _ rfl
      simp only [Nat.add_zero] at c0
      have HCN := Lib.hid (show (fs.getD j Lm.f0).path ≠ q → _ from Lm.bytR_skip (img := img) (fs := fs) (q := q) (j := j))
      have HCZ := Lib.hid (show (fs.getD j Lm.f0).path = q → _ from Lm.bytI_zero (img := img) (fs := fs) (q := q) (j := j))
      have HCS := Lib.hid (Lm.bytI_succ img fs j)
      have HCE2 := Lib.hid (fun i h hi => Lm.bytI_end (img := img) (fs := fs) (q := q) (j := j) (i := i) h hi)
      have HOK := Lib.hid (fun i hi => Lm.bytI_len (img := img) HALL.out h50 HPS.out hlt (i := i) hi)
      obtain ⟨f1, f2, f3, f4, f5⟩ := (Lm.okF_iff _).1 (Lm.all_get (d := Lm.f0) HALL.out hlt)
      clear hc
      generalize fs.getD j Lm.f0 = x at *
      obtain ⟨pa, st, ln⟩ := x
      simp only [Lm.fC] at *
      by_cases hpp : pa = q
      case neg =>
        have e1 : (!pa.toList == q.toList) = true := by
          rw [Bool.not_eq_true', beq_eq_false_iff_ne]
          intro e
          exact hpp (((Lm.str_eq pa q.toList).1 e).trans (by rw [Lib.toList_data]))
        have HSK := Lib.hid (HCN.out hpp)
        clear HCN HCZ HCS HCE2 HOK c1 c2
        generalize Lm.bytR img fs q j = L at *
        go_wp2_with fail
        go_round
        case rel => exact ⟨j + 1, by omega, by go_num, by rw [HSK.out]⟩
        case measure => simp [intOf]; omega
      case pos =>
        have e1 : (!pa.toList == q.toList) = false := by rw [hpp]; simp
        subst hpp
        have HCZ1 := Lib.hid (HCZ.out rfl)
        have HCE1 := Lib.hid (fun i hi => HCE2.out i rfl hi)
        obtain ⟨N, hN⟩ := Lm.blk_nat f3
        have HBI := Lib.hid (fun i => Lm.blk_iff f3 i)
        have CB := Lib.hid (fun W => rBlocks_any ln f3 (by omega) W)
        rw [← hN] at CB HBI HOK f5 HCE1
        clear hN HCN HCZ HCE2
        go_wp2_with fail
        go_loop [7, 9, 10] (fun sv bv _ => ∃ i : Nat, i ≤ N ∧ bv = .int .i64 i ∧ sv = .string ⟨(Lm.bytI img fs j i).toArray⟩) (fun _ bv _ => N - (intOf bv).toNat)
        case atStart => exact ⟨0, Nat.zero_le _, rfl, by rw [HCZ1.out]⟩
        case round =>
          obtain ⟨i, hi, rfl, rfl⟩ := hrel
          by_cases hiN : i < N
          · have hi2 := (HBI.out i).1 (by omega)
            have di : decide ((i : Int) < (N : Int)) = true := decide_eq_true (by omega)
            obtain ⟨mm, hmm⟩ : ∃ mm : Nat, min 2048 (ln - (i : Int) * 2048) = (mm : Int) := ⟨(min 2048 (ln - (i : Int) * 2048)).toNat, by omega⟩
            have hm1 : 1 ≤ mm ∧ mm ≤ 2048 := by omega
            obtain ⟨bn, hbn⟩ : ∃ bn : Nat, st + (i : Int) = (bn : Int) := ⟨(st + (i : Int)).toNat, by omega⟩
            have CR := Lib.hid (fun W (h : Below w.heap.size w W) => rReadable_any _ img bn W (HM.out.below h))
            have hcs := HCS.out i
            have hok := HOK.out i (by omega)
            have HLEN := Lib.hid hok
            cases hrd : Lm.readable img (bn : Int) with
            | true =>
              rw [hrd] at CR
              have hr2 := Lm.readable_yes hrd
              obtain ⟨ib, io, ic, hv, hib, hcell⟩ := HM.out.cell hr2.1
              obtain ⟨rfl, _, rfl⟩ : A = some ⟨ib, io, none⟩ ∧ img.length = img.length ∧ c = ic := by simpa using hv
              have HCX := Lib.hid (hcs.trans (congrArg (Lm.bytI img fs j i ++ ·) (Lm.pieceB_yes (f := ⟨pa, st, ln⟩) hbn hmm hrd)))
              have hbl2 : bn < img.length := hr2.1
              have hsz := hr2.2
              clear hcs hrd hv hr2
              generalize img.getD bn ⟨#[]⟩ = s at *
              generalize Lm.bytI img fs j i = L at *
              have hms : mm ≤ s.size := by omega
              have HSZ := Lib.hid hsz
              clear hsz
              go_wp2_with fail
              with_reducible refine (CB.out _).mono ?_
              rintro e w3 ⟨rfl, rfl⟩
              go_wp2_with fail
              with_reducible refine (CR.out _ (Below.refl _ _)).mono ?_
              rintro e w4 ⟨rfl, hw4⟩
              have hw5 := hw4.symm
              subst hw5
              clear hw4
              go_wp2_with fail
              go_round
              case rel => exact ⟨i + 1, by omega, by go_num, by
                rw [HCX.out, ← Lm.cat_mk]⟩
              case measure => simp [intOf]; omega
            | false =>
              rw [hrd] at CR
              have HCX := Lib.hid (hcs.trans (congrArg (Lm.bytI img fs j i ++ ·) (Lm.pieceB_no (f := ⟨pa, st, ln⟩) hbn hmm hrd)))
              have CZ := Lib.hid (fun W => rZero_any W)
              have hsz := Lm.zs_size 2048
              have HZE := Lib.hid (Lm.zs_ext mm hm1.2)
              clear hcs hrd
              generalize Lm.zs 2048 = s at *
              generalize Lm.bytI img fs j i = L at *
              have hms : mm ≤ s.size := by omega
              have HSZ := Lib.hid hsz
              clear hsz
              go_wp2_with fail
              with_reducible refine (CB.out _).mono ?_
              rintro e w3 ⟨rfl, rfl⟩
              go_wp2_with fail
              with_reducible refine (CR.out _ (Below.refl _ _)).mono ?_
              rintro e w4 ⟨rfl, hw4⟩
              have hw5 := hw4.symm
              subst hw5
              clear hw4
              go_wp2_with fail
              with_reducible refine (CZ.out _).mono ?_
              rintro e w6 ⟨rfl, hw6⟩
              have hw7 := hw6.symm
              subst hw7
              clear hw6
              go_wp2_with fail
              go_round
              case rel => exact ⟨i + 1, by omega, by go_num, by
                rw [HCX.out, ← HZE.out, ← Lm.cat_mk]⟩
              case measure => simp [intOf]; omega
          · obtain rfl : i = N := by omega
            have HEND := Lib.hid (HCE1.out i rfl)
            generalize Lm.bytI img fs j i = L at *
            go_wp2_with fail
            with_reducible refine (CB.out _).mono ?_
            rintro e w3 ⟨rfl, rfl⟩
            go_wp2_with fail
            go_round
            case rel => exact ⟨j + 1, by omega, by go_num, by rw [← HEND.out]⟩
            case measure => simp [intOf]; omega
    · obtain rfl : j = fs.length := by omega
      have HR := Lib.hid (Lm.bytR_all img fs q)
      generalize Lm.bytR img fs q fs.length = L at *
      go_wp2_with fail
      go_ret
      exact ⟨congrArg (fun l : List UInt8 => Ending.returned (Value.string ⟨l.toArray⟩)) HR.out, rfl⟩

set_option maxHeartbeats 3200000 in
set_option maxRecDepth 100000 in
/-- masterdiscref56.Recover. -/
theorem rRecover_any (v u : Value) (img : List ByteArray) (fs : List Lm.F) (q : ByteArray) (w : World) (hm : Lm.Strs w v img) (hf : Lm.Files w u fs) (hps : ∀ j, j < fs.length → (fs.getD j Lm.f0).path.size ≤ 500) :
    Calls Tryd.prog 12 #[v, u, .string q] w fun e w' => e = .returned (.tuple #[.string ⟨(if Lm.recE img fs q = 0 then Lm.recR img fs q else []).toArray⟩, .int .i64 (Lm.recE img fs q)]) ∧ Below w.heap.size w w' := by
  have CK := Lib.hid (rValidFiles_any v u img fs w hm hf)
  have HM := Lib.hid hm
  have HF := Lib.hid hf
  have HPS := Lib.hid hps
  have HE := Lib.hid (show Lm.recE img fs q = if Lm.chkR img fs ≠ 0 then Lm.chkR img fs else if fs.all (Lm.isN q) = true then 6 else 0 from rfl)
  obtain ⟨A, c, rfl, hlc, hcm⟩ := Lm.Strs.shape hm
  obtain ⟨B, d, rfl, hld, hdm, _⟩ := hf
  clear hm hps
  by_cases hc : Lm.chkR img fs = 0
  case neg =>
    have hE := HE.out.trans (if_pos hc)
    rw [hE, if_neg hc]
    have hne : (Lm.chkR img fs != 0) = true := by rw [bne_iff_ne]; exact hc
    have hne2 : (Lm.chkR img fs == 0) = false := by rw [beq_eq_false_iff_ne]; exact hc
    clear hE HE hc
    generalize Lm.chkR img fs = e0 at *
    go_enter Tryd.func12, Tryd.ntmps12
    go_wp2_with fail
    with_reducible refine CK.out.mono ?_
    rintro e w2 ⟨rfl, hb2⟩
    go_wp2_with fail
    go_ret2
    exact ⟨rfl, hb2⟩
  case pos =>
  obtain ⟨h7, h50, hall⟩ := Lm.chkR_zero hc
  have HALL := Lib.hid hall
  have HE1 := Lib.hid (HE.out.trans (if_neg (fun h => h hc)))
  rw [hc] at CK
  clear hc HE hall
  cases hn : fs.all (Lm.isN q) with
  | true =>
    rw [HE1.out.trans (if_pos hn), if_neg (by decide)]
    clear HE1
    go_enter Tryd.func12, Tryd.ntmps12
    go_wp2_with fail
    with_reducible refine CK.out.mono ?_
    rintro e w2 ⟨rfl, hb2⟩
    have CI := Lib.hid (rIndex_any _ fs q w2 (HF.out.below hb2))
    rw [hn] at CI
    clear hn
    go_wp2_with fail
    with_reducible refine CI.out.mono ?_
    rintro e w3 ⟨⟨r, rfl, hr⟩, hw3⟩
    have hw4 := hw3.symm
    subst hw4
    have hr0 : r < 0 := hr.2 (by first | rfl | trivial)
    have dr : decide (r < 0) = true := decide_eq_true hr0
    clear hr hw3
    go_wp2_with fail
    go_ret2
    exact ⟨rfl, hb2⟩
  | false =>
    rw [HE1.out.trans (if_neg (by rw [hn]; decide)), if_pos rfl]
    clear HE1
    go_enter Tryd.func12, Tryd.ntmps12
    go_wp2_with fail
    with_reducible refine CK.out.mono ?_
    rintro e w2 ⟨rfl, hb2⟩
    have CI := Lib.hid (rIndex_any _ fs q w2 (HF.out.below hb2))
    have CO := Lib.hid (rRecovered_any _ _ img fs q w2 (HM.out.below hb2) (HF.out.below hb2) HALL.out h50 HPS.out)
    rw [hn] at CI
    clear hn
    go_wp2_with fail
    with_reducible refine CI.out.mono ?_
    rintro e w3 ⟨⟨r, rfl, hr⟩, hw3⟩
    have hw4 := hw3.symm
    subst hw4
    have hr0 : ¬ r < 0 := fun h => by have := hr.1 h; cases this
    have dr : decide (r < 0) = false := decide_eq_false hr0
    clear hr hw3 hr0
    go_wp2_with fail
    with_reducible refine CO.out.mono ?_
    rintro e w4 ⟨rfl, hw4⟩
    subst hw4
    go_wp2_with fail
    go_ret2
    exact ⟨rfl, hb2⟩
end Go.Proofs.YtlhechlbmbjffaaDoor

/-
  The reference's Lost.
-/
import Derived.Test.YtlhechlbmbjffaaDoorRf
import Derived.Test.YtlhechlbmbjffaaDoorJp
import Derived.Test.YtlhechlbmbjffaaDoorJt
import Derived.BigQuiet
namespace Go.Proofs.YtlhechlbmbjffaaDoor
open Go.RowKit
namespace Lm
theorem OwnL.below {W W' : World} {B : Nat} {v : Value} {l : List L} (h : OwnL W B v l) (hb : Below W.heap.size W W') : OwnL W' B v l :=
  World.ownsRow.kept h (Kit.grown_of_below hb) (by cases v.ownBlock <;> simp)
theorem OwnL.slice {W : World} {B : Nat} {v : Value} {l : List L} (h : OwnL W B v l) : ∃ A c, v = .slice A l.length c := by
  obtain ⟨A, c, hv, _⟩ := h.row
  exact ⟨A, c, hv⟩
end Lm

set_option maxHeartbeats 12800000 in
set_option maxRecDepth 100000 in
/-- masterdiscref56.Lost. -/
theorem rLost_any (v u : Value) (img : List ByteArray) (fs : List Lm.F) (w : World) (hm : Lm.Strs w v img) (hf : Lm.Files w u fs) (hps : ∀ j, j < fs.length → (fs.getD j Lm.f0).path.size ≤ 500) :
    Calls Tryd.prog 10 #[v, u] w fun e w' => ∃ r, e = .returned (.tuple #[r, .int .i64 (Lm.chkR img fs)]) ∧ Lm.OwnL w' w.heap.size r (if Lm.chkR img fs = 0 then Lm.lostR img fs else []) ∧ Below w.heap.size w w' := by
  have CK := Lib.hid (rValidFiles_any v u img fs w hm hf)
  have HM := Lib.hid hm
  have HF := Lib.hid hf
  have HPS := Lib.hid hps
  obtain ⟨A, c, rfl, hlc, hcm⟩ := Lm.Strs.shape hm
  obtain ⟨B, d, rfl, hld, hdm, hce⟩ := hf
  have HCE := Lib.hid hce
  clear hce
  unfold maxLen at hcm hdm
  clear hm hps
  by_cases hc : Lm.chkR img fs = 0
  case neg =>
    have hne : (Lm.chkR img fs != 0) = true := by rw [bne_iff_ne]; exact hc
    have hne2 : (Lm.chkR img fs == 0) = false := by rw [beq_eq_false_iff_ne]; exact hc
    rw [if_neg hc]
    clear hc
    generalize Lm.chkR img fs = e0 at *
    go_enter Tryd.func10, Tryd.ntmps10
    go_wp2_with fail
    with_reducible refine CK.out.mono ?_
    rintro e w2 ⟨rfl, hb2⟩
    go_wp2_with fail
    go_ret2
    exact ⟨_, rfl, Lm.OwnL.nil _ _, hb2⟩
  case pos =>
  obtain ⟨h7, h50, hall⟩ := Lm.chkR_zero hc
  have HALL := Lib.hid hall
  rw [if_pos hc, hc]
  rw [hc] at CK
  go_enter Tryd.func10, Tryd.ntmps10
  go_wp2_with fail
  with_reducible refine CK.out.mono ?_
  rintro e w1 ⟨rfl, hb1⟩
  have CP := Lib.hid (rPaths_any _ fs w1 (HF.out.below hb1) (by omega))
  go_wp2_with fail
  with_reducible refine CP.out.mono ?_
  rintro e w2 ⟨pv, rfl, hP, hb2⟩
  have HB2 := Lib.hid (hb1.trans (hb2.mono hb1.size))
  have HP := Lib.hid hP
  have HPL := Lib.hid (Lm.pathsR_len fs fs.length)
  have HOUT := Lib.hid (show Lm.lostR img fs = (Lm.pathsR fs fs.length).flatMap (Lm.lossesR img fs) from Lm.outR_paths _ _ _)
  obtain ⟨PA, pc, rfl, hpl, hpm⟩ := Lm.Strs.shape hP
  have HK := Lib.hid (fun q => (Lm.curR_ok (img := img) hall h50 HPS.out q fs.length (Nat.le_refl _)).2)
  clear hP hb1 hb2 CK CP hall hc
  generalize Lm.pathsR fs fs.length = ps at *
  have hpl2 : ps.length ≤ 1024 := Nat.le_trans HPL.out h50
  unfold maxLen at hpm
  go_wp2_with fail
  go_loopw [7, 9, 10, 11, 12, 13, 14, 15] (fun lv kv _ _ _ _ _ _ wr => ∃ k : Nat, k ≤ ps.length ∧ kv = .int .i64 k ∧ Hid (Lm.OwnL wr w2.heap.size lv ((ps.take k).flatMap (Lm.lossesR img fs))) ∧ Below w2.heap.size w2 wr) (fun _ kv _ _ _ _ _ _ _ => ps.length - (intOf kv).toNat)
  case atStart => exact ⟨0, Nat.zero_le _, rfl, Lib.hid (Lm.OwnL.nil _ _), Below.refl _ _⟩
  case round =>
    obtain ⟨k, hk, rfl, HOWN, hbw⟩ := hrel
    by_cases hlt : k < ps.length
    · have HNX := Lib.hid (Lm.flat_take (Lm.lossesR img fs) ps ⟨#[]⟩ hlt)
      have hlb := Lm.flat_len (Lm.lossesR img fs) (K := 4194304) HK.out ps k
      have hlb2 : ((ps.take k).flatMap (Lm.lossesR img fs)).length ≤ 4294967296 := by
        have : 4194304 * k ≤ 4194304 * 1024 := Nat.mul_le_mul_left _ (by omega)
        omega
      obtain ⟨pb, po, pc', hpv, hpbl, hpcell⟩ := Lm.Strs.cell HP.out hlt
      obtain ⟨rfl, _, rfl⟩ : PA = some ⟨pb, po, none⟩ ∧ ps.length = ps.length ∧ pc = pc' := by simpa using hpv
      have HPC := Lib.hid hpcell
      have HB := Lib.hid hbw
      clear hpv hpcell hbw hlb
      generalize (ps.take k).flatMap (Lm.lossesR img fs) = L0 at *
      generalize ps.getD k ⟨#[]⟩ = q at *
      obtain ⟨LA, lc, rfl⟩ := HOWN.out.slice
      go_wp2_with fail
      go_loopw [7, 10, 12, 13, 14, 15] (fun lv ov jv _ _ _ wr => ∃ j : Nat, j ≤ fs.length ∧ jv = .int .i64 j ∧ ov = .int .i64 (Lm.offR (fs.take j) q) ∧ Hid (Lm.OwnL wr w2.heap.size lv (L0 ++ Lm.curR img fs q j)) ∧ Below w2.heap.size w2 wr) (fun _ _ jv _ _ _ _ => fs.length - (intOf jv).toNat)
      case atStart => exact ⟨0, Nat.zero_le _, rfl, rfl, Lib.hid (by rw [Lm.curR_zero, List.append_nil]; exact HOWN.out), HB.out⟩
      case round =>
        clear HOWN HB
        obtain ⟨j, hj, rfl, rfl, HOWN, hbw⟩ := hrel
        obtain ⟨LA2, lc2, hlv⟩ := HOWN.out.slice
        subst hlv
        by_cases hlt2 : j < fs.length
        · obtain ⟨b, o, rfl, hbl, hc⟩ := HCE.out (by omega)
          have hW := HB2.out.trans (hbw.mono HB2.out.size)
          have c0 := (hW.cell (p := ⟨b, o + j * 3 + 0, none⟩) hbl).trans (hc j hlt2 0 _ rfl)
          have hcl2 := hc j hlt2 2 _ rfl
          have hcl1 := hc j hlt2 1 _ rfl
          have p0 := (hbw.cell (p := ⟨pb, po + k, none⟩) hpbl).trans HPC.out
          simp only [Nat.add_zero] at c0
          have HBW := Lib.hid hbw
          have HCN := Lib.hid (show (fs.getD j Lm.f0).path ≠ q → _ from Lm.curR_skip (img := img) (fs := fs) (q := q) (j := j))
          have HCZ := Lib.hid (show (fs.getD j Lm.f0).path = q → _ from Lm.curI_zero (img := img) (fs := fs) (q := q) (j := j))
          have HCS := Lib.hid (Lm.curI_succ img fs j)
          have HCE2 := Lib.hid (fun i h hi => Lm.curI_end (img := img) (fs := fs) (q := q) (j := j) (i := i) h hi)
          have HOK := Lib.hid (fun i hi => Lm.curI_ok (img := img) HALL.out h50 HPS.out hlt2 (i := i) hi)
          have hoff := Lm.offR_snoc hlt2 q
          have hbd := Lm.offR_bd HALL.out j q
          have HOA := Lib.hid (show (fs.getD j Lm.f0).path = q → Lm.offAt fs j = Lm.offR (fs.take j) q from fun h => by rw [← h]; rfl)
          obtain ⟨f1, f2, f3, f4, f5⟩ := (Lm.okF_iff _).1 (Lm.all_get (d := Lm.f0) HALL.out hlt2)
          clear hc
          generalize fs.getD j Lm.f0 = x at *
          obtain ⟨pa, st, ln⟩ := x
          simp only [Lm.fC] at *
          have HO2 := Lib.hid hoff
          clear hoff
          generalize Lm.offR (fs.take j) q = o1 at *
          by_cases hpp : pa = q
          case neg =>
            have e1 : (!pa.toList == q.toList) = true := by
              rw [Bool.not_eq_true', beq_eq_false_iff_ne]
              intro e
              exact hpp (((Lm.str_eq pa q.toList).1 e).trans (by rw [Lib.toList_data]))
            have HOF := Lib.hid (HO2.out.trans ((congrArg (o1 + ·) (if_neg (fun e => hpp e.symm))).trans (Int.add_zero _)))
            have HSK := Lib.hid (HCN.out hpp)
            clear HO2 HCN HCZ HCS HCE2 HOK HOA hcl1 hcl2 hW hbw
            go_wp2_with fail
            go_quiet (fail)
            go_wp2_with fail
            go_roundw
            case rel => exact ⟨j + 1, by omega, by go_num, by rw [HOF.out], Lib.hid (by rw [HSK.out]; exact HOWN.out.below (Kit.Below.drewN (Below.refl _ _) nq)), Kit.Below.drewN HBW.out nq⟩
            case measure => simp [intOf]; omega
          case pos =>
            have e1 : (!pa.toList == q.toList) = false := by rw [hpp]; simp
            have HOF := Lib.hid (HO2.out.trans (congrArg (o1 + ·) (if_pos hpp.symm)))
            subst hpp
            have HCZ1 := Lib.hid (HCZ.out rfl)
            have HOA1 := Lib.hid (HOA.out rfl)
            have HCE1 := Lib.hid (fun i hi => HCE2.out i rfl hi)
            obtain ⟨hb0, hb1⟩ := hbd
            obtain ⟨N, hN⟩ := Lm.blk_nat f3
            have HBI := Lib.hid (fun i => Lm.blk_iff f3 i)
            have HBE := Lib.hid (fun i h => Lm.blk_end f3 i h)
            have CB := Lib.hid (fun W => rBlocks_any ln f3 (by omega) W)
            rw [← hN] at CB HBI HBE HOK f5 HCE1
            clear hN HO2 HCN HCZ HCE2 hW hbw
            go_wp2_with fail
            go_quiet (fail)
            have hbq : Below wr.heap.size wr (wr.drewN nq) := Kit.Below.drewN (Below.refl _ _) nq
            have HOQ := Lib.hid (HOWN.out.below hbq)
            have HBQ := Lib.hid (HBW.out.trans (hbq.mono HBW.out.size))
            clear p0 c0 HOWN
            generalize wr.drewN nq = wq at *
            clear hbq HBW
            go_wp2_with fail
            go_loopw [7, 10, 13, 14, 15] (fun lv ov bv _ _ wr => ∃ (i : Nat) (off : Int), i ≤ N ∧ bv = .int .i64 i ∧ ov = .int .i64 off ∧ Hid (off = o1 + min ((i : Int) * 2048) ln) ∧ Hid (Lm.OwnL wr w2.heap.size lv (L0 ++ Lm.curI img fs j i)) ∧ Below w2.heap.size w2 wr) (fun _ _ bv _ _ _ => N - (intOf bv).toNat)
            case atStart => exact ⟨0, o1, Nat.zero_le _, rfl, rfl, Lib.hid (by omega), Lib.hid (by
              rw [HCZ1.out]
              have h := HOQ.out
              rw [List.length_append] at h
              exact h), HBQ.out⟩
            case round =>
              obtain ⟨i, off, hi, rfl, rfl, HOFF, HOWN, hbw⟩ := hrel
              obtain ⟨wl, rfl⟩ : ∃ wl : World, wl = wr := ⟨_, rfl⟩
              have hW := HB2.out.trans (hbw.mono HB2.out.size)
              have c1 := (hW.cell (p := ⟨b, o + j * 3 + 1, none⟩) hbl).trans hcl1
              have c2 := (hW.cell (p := ⟨b, o + j * 3 + 2, none⟩) hbl).trans hcl2
              have HW := Lib.hid hW
              have HBW := Lib.hid hbw
              by_cases hiN : i < N
              · have hi2 := (HBI.out i).1 (by omega)
                have di : decide ((i : Int) < (N : Int)) = true := decide_eq_true (by omega)
                have ho := HOFF.out
                have hio : off = o1 + (i : Int) * 2048 := by omega
                obtain ⟨mm, hmm⟩ : ∃ mm : Int, min 2048 (ln - (i : Int) * 2048) = mm := ⟨_, rfl⟩
                have hm1 : 1 ≤ mm ∧ mm ≤ 2048 := by omega
                have HOF2 := Lib.hid (show off + mm = o1 + min (((i + 1 : Nat) : Int) * 2048) ln by omega)
                have hofb : 0 ≤ off ∧ off ≤ 536870912 := by omega
                obtain ⟨bn, hbn⟩ : ∃ bn : Nat, (bn : Int) = st + (i : Int) := ⟨(st + (i : Int)).toNat, by omega⟩
                have CR := Lib.hid (fun W (h : Below w.heap.size w W) => rReadable_any _ img bn W (HM.out.below h))
                have hcs := HCS.out i
                rw [show Lm.readable img (st + (i : Int)) = Lm.readable img (bn : Int) by rw [hbn]] at hcs
                have HOA2 := Lib.hid (show Lm.offAt fs j + (i : Int) * 2048 = off by rw [HOA1.out]; exact hio.symm)
                obtain ⟨hok1, hok2⟩ := HOK.out i (by omega)
                have hbn' := hbn.symm
                clear ho hio hbn HOFF
                cases hrd : Lm.readable img (bn : Int) with
                | true =>
                  rw [hrd, if_pos rfl] at hcs
                  have HCX := Lib.hid hcs
                  rw [hrd] at CR
                  obtain ⟨LA3, lc3, rfl⟩ := HOWN.out.slice
                  clear hcs hrd hok1 hok2 hbw
                  go_wp2_with fail
                  with_reducible refine (CB.out _).mono ?_
                  rintro e w3 ⟨rfl, rfl⟩
                  go_wp2_with fail
                  with_reducible refine (CR.out _ HW.out).mono ?_
                  rintro e w4 ⟨rfl, rfl⟩
                  go_wp2_with fail
                  go_roundw
                  case rel => exact ⟨i + 1, _, by omega, by go_num, rfl, HOF2, Lib.hid (by
                    rw [HCX.out]
                    have h := HOWN.out
                    rw [List.length_append] at h
                    exact h), HBW.out⟩
                  case measure => simp [intOf]; omega
                | false =>
                  rw [hrd, if_neg (by decide)] at hcs
                  rw [hrd] at CR
                  clear hrd hbw
                  rcases List.eq_nil_or_concat (Lm.curI img fs j i) with hG | ⟨G', y, hG⟩
                  · rw [hG] at HOWN hcs
                    rw [List.append_nil] at HOWN
                    have HCX := Lib.hid (hcs.trans (Lm.addL_nil _))
                    have HCX2 := Lib.hid (show Lm.curI img fs j (i + 1) = [⟨pa, off, mm⟩] by
                      rw [HCX.out]
                      show [(⟨pa, Lm.offAt fs j + (i : Int) * 2048, min 2048 (ln - (i : Int) * 2048)⟩ : Lm.L)] = _
                      rw [HOA2.out, hmm])
                    clear HCX
                    have HCX := HCX2
                    clear HCX2 hcs hG hok1 hok2
                    obtain ⟨LA3, lc3, rfl⟩ := HOWN.out.slice
                    have hw0 : IntKind.i64.wrap ((L0.length : Int) - 1) = (L0.length : Int) - 1 := IntWalk.i64_in _ (by omega)
                    have dge : decide ((L0.length : Int) ≤ (L0.length : Int) - 1) = false := decide_eq_false (by omega)
                    go_wp2_with fail
                    with_reducible refine (CB.out _).mono ?_
                    rintro e w3 ⟨rfl, hw3⟩
                    subst hw3
                    go_wp2_with fail
                    with_reducible refine (CR.out _ HW.out).mono ?_
                    rintro e w4 ⟨rfl, hw4⟩
                    have hw5 := hw4.symm
                    subst hw5
                    clear hw4
                    go_wp2_with fail
                    go_quiet (fail)
                    have hbq : Below wl.heap.size wl (wl.drewN nq) := Kit.Below.drewN (Below.refl _ _) nq
                    have HOQ := Lib.hid (HOWN.out.below hbq)
                    have HBQ := Lib.hid (HBW.out.trans (hbq.mono HBW.out.size))
                    clear HOWN c1 c2
                    generalize wl.drewN nq = wq at *
                    clear hbq HBW HW
                    have p1 := (HBQ.out.cell (p := ⟨pb, po + k, none⟩) hpbl).trans HPC.out
                    have HOA3 := Lib.hid (HOQ.out.alloc (.cells #[.string pa, .int .i64 off, .int .i64 mm] 35))
                    have HBA := Lib.hid (HBQ.out.alloc HBQ.out.size (.cells #[.string pa, .int .i64 off, .int .i64 mm] 35))
                    have HNC := Lib.hid (Lm.newCells wq #[.string pa, .int .i64 off, .int .i64 mm] 35)
                    have hsa := HBA.out.size
                    go_wp2_with (at_builtin; refine Lm.box ?_)
                    refine Lib.hid ?_
                    refine pushL rfl _ _ rfl w2.heap.size _ L0 [⟨pa, off, mm⟩] rfl HOA3.out ⟨wq.heap.size, 0, none⟩ 1 rfl ?_ ?_ hsa ?_
                    · intro jj uu hj
                      rw [Addr.add_lit]
                      simp only [Nat.zero_add]
                      exact HNC.out jj uu (by simpa [Lm.lsC, Lm.lC] using hj)
                    · simp
                      omega
                    · intro v' w5 hown' hg1 hat'
                      have HO5 := Lib.hid hown'
                      have HB5 := Lib.hid (HBA.out.grown hg1 hsa (fun k hk => (HOA3.out.lt k hk).1))
                      clear hg1 hat' hown'
                      go_wp2_with fail
                      go_roundw
                      case rel => exact ⟨i + 1, _, by omega, by go_num, rfl, HOF2, Lib.hid (by
                        rw [HCX.out]
                        have h := HO5.out
                        first | exact h | (simp at h ⊢; exact h)), HB5.out⟩
                      case measure => simp [intOf]; omega
                  · rw [List.concat_eq_append] at hG
                    rw [hG] at HOWN hcs hok1 hok2
                    obtain ⟨yp, yo, yl⟩ := y
                    have hyk : Lm.okL ⟨yp, yo, yl⟩ = true := by
                      rw [List.all_append, Bool.and_eq_true] at hok1
                      simpa using hok1.2
                    obtain ⟨y1, y2, y3, y4⟩ := (Lm.okL_iff _).1 hyk
                    have hG2 : G'.length ≤ 8388608 := by
                      rw [List.length_append] at hok2
                      omega
                    rw [← List.append_assoc] at HOWN
                    have HCX := Lib.hid (show Lm.curI img fs j (i + 1) = if yo + yl = off then G' ++ [⟨yp, yo, yl + mm⟩] else G' ++ [⟨yp, yo, yl⟩] ++ [⟨pa, off, mm⟩] by
                      refine (hcs.trans (Lm.addL_snoc _ _ _)).trans ?_
                      show (if yo + yl = Lm.offAt fs j + (i : Int) * 2048 then G' ++ [(⟨yp, yo, yl + min 2048 (ln - (i : Int) * 2048)⟩ : Lm.L)] else G' ++ [⟨yp, yo, yl⟩] ++ [(⟨pa, Lm.offAt fs j + (i : Int) * 2048, min 2048 (ln - (i : Int) * 2048)⟩ : Lm.L)]) = _
                      rw [HOA2.out, hmm])
                    simp only [] at y1 y2 y3 y4
                    have HLG := Lib.hid (show (L0 ++ G').length = L0.length + G'.length from List.length_append)
                    have HAS := Lib.hid (fun t : List Lm.L => (List.append_assoc L0 G' t).symm)
                    have hl1 : (L0 ++ G').length ≤ 8589934592 := by
                      rw [HLG.out]
                      omega
                    have hl2 : L0.length ≤ (L0 ++ G').length := by
                      rw [HLG.out]
                      omega
                    clear hok1 hok2 hyk hG hcs hG2
                    generalize L0 ++ G' = l at *
                    obtain ⟨g, cap, rfl, hgb, hgl, hcap, hcm2, e2, e3, ef, eput⟩ := HOWN.out.last
                    have dge : decide ((L0.length : Int) ≤ (l.length : Int)) = true := decide_eq_true (by omega)
                    have dge2 : decide (L0.length ≤ l.length) = true := decide_eq_true hl2
                    simp only [] at e2 e3
                    clear eput
                    by_cases hq : yo + yl = off
                    · have q1 : (yo + yl == off) = true := by rw [hq]; exact beq_self_eq_true _
                      have HCY := Lib.hid (HCX.out.trans (if_pos hq))
                      clear HCX hq
                      go_wp2_with fail
                      with_reducible refine (CB.out _).mono ?_
                      rintro e w3 ⟨rfl, hw3⟩
                      subst hw3
                      go_wp2_with fail
                      with_reducible refine (CR.out _ HW.out).mono ?_
                      rintro e w4 ⟨rfl, hw4⟩
                      have hw5 := hw4.symm
                      subst hw5
                      clear hw4
                      go_wp2_with fail
                      go_quiet (fail)
                      have hbq : Below wl.heap.size wl (wl.drewN nq) := Kit.Below.drewN (Below.refl _ _) nq
                      have HOQ := Lib.hid (HOWN.out.below hbq)
                      have HBQ := Lib.hid (HBW.out.trans (hbq.mono HBW.out.size))
                      clear HOWN c1 c2 e2 e3 ef hgl
                      generalize wl.drewN nq = wq at *
                      clear hbq HBW HW
                      obtain ⟨g', cap', hv', hgb', hgl, _, _, e2, e3, ef, eput⟩ := HOQ.out.last
                      obtain ⟨rfl, rfl⟩ : g = g' ∧ cap = cap' := by simpa using hv'
                      have PUT := Lib.hid (eput (yl + mm))
                      have hwz : IntKind.i64.wrap (yl + mm) = yl + mm := IntWalk.i64_in _ (by omega)
                      simp only [] at e2 e3
                      clear eput hv'
                      go_wp2_with fail
                      have HO5 := Lib.hid PUT.out.1
                      have HB5 := Lib.hid (HBQ.out.grown PUT.out.2 HBQ.out.size (fun k hk => by cases hk; exact hgb'))
                      go_roundw
                      case rel => exact ⟨i + 1, _, by omega, by go_num, rfl, HOF2, Lib.hid (by
                        rw [HCY.out]
                        have h := HO5.out
                        rw [HAS.out]
                        first | exact h | (simp at h ⊢; exact h)), HB5.out⟩
                      case measure => simp [intOf]; omega
                    · have q1 : (yo + yl == off) = false := by rw [beq_eq_false_iff_ne]; exact hq
                      have HCY := Lib.hid (HCX.out.trans (if_neg hq))
                      clear HCX hq
                      go_wp2_with fail
                      with_reducible refine (CB.out _).mono ?_
                      rintro e w3 ⟨rfl, hw3⟩
                      subst hw3
                      go_wp2_with fail
                      with_reducible refine (CR.out _ HW.out).mono ?_
                      rintro e w4 ⟨rfl, hw4⟩
                      have hw5 := hw4.symm
                      subst hw5
                      clear hw4
                      go_wp2_with fail
                      go_quiet (fail)
                      have hbq : Below wl.heap.size wl (wl.drewN nq) := Kit.Below.drewN (Below.refl _ _) nq
                      have HOQ := Lib.hid (HOWN.out.below hbq)
                      have HBQ := Lib.hid (HBW.out.trans (hbq.mono HBW.out.size))
                      clear HOWN c1 c2 e2 e3 ef
                      generalize wl.drewN nq = wq at *
                      clear hbq HBW HW
                      have p1 := (HBQ.out.cell (p := ⟨pb, po + k, none⟩) hpbl).trans HPC.out
                      have HOA3 := Lib.hid (HOQ.out.alloc (.cells #[.string pa, .int .i64 off, .int .i64 mm] 35))
                      have HBA := Lib.hid (HBQ.out.alloc HBQ.out.size (.cells #[.string pa, .int .i64 off, .int .i64 mm] 35))
                      have HNC := Lib.hid (Lm.newCells wq #[.string pa, .int .i64 off, .int .i64 mm] 35)
                      have hsa := HBA.out.size
                      go_wp2_with (at_builtin; refine Lm.box ?_)
                      refine Lib.hid ?_
                      refine pushL rfl _ _ rfl w2.heap.size (.slice (some ⟨g, 0, none⟩) (l.length + 1) cap) (l ++ [⟨yp, yo, yl⟩]) [⟨pa, off, mm⟩] (by first | rfl | simp [Act.eval]) HOA3.out ⟨wq.heap.size, 0, none⟩ 1 rfl ?_ ?_ hsa ?_
                      · intro jj uu hj
                        rw [Addr.add_lit]
                        simp only [Nat.zero_add]
                        exact HNC.out jj uu (by simpa [Lm.lsC, Lm.lC] using hj)
                      · simp
                        omega
                      · intro v' w5 hown' hg1 hat'
                        have HO5 := Lib.hid hown'
                        have HB5 := Lib.hid (HBA.out.grown hg1 hsa (fun k hk => (HOA3.out.lt k hk).1))
                        clear hg1 hat' hown'
                        go_wp2_with fail
                        go_roundw
                        case rel => exact ⟨i + 1, _, by omega, by go_num, rfl, HOF2, Lib.hid (by
                          rw [HCY.out]
                          have h := HO5.out
                          rw [List.append_assoc, HAS.out, ← List.append_assoc]
                          first | exact h | (simp at h ⊢; exact h)), HB5.out⟩
                        case measure => simp [intOf]; omega
              · obtain rfl : i = N := by omega
                have HEND := Lib.hid (HCE1.out i rfl)
                have ho := HOFF.out
                have HOF2 := Lib.hid (show off = o1 + ln by rw [ho, HBE.out i rfl])
                obtain ⟨LA3, lc3, rfl⟩ := HOWN.out.slice
                clear ho hbw
                go_wp2_with fail
                with_reducible refine (CB.out _).mono ?_
                rintro e w3 ⟨rfl, rfl⟩
                go_wp2_with fail
                go_roundw
                case rel => exact ⟨j + 1, by omega, by go_num, by rw [HOF.out, ← HOF2.out], Lib.hid (by
                  rw [← HEND.out]
                  have h := HOWN.out
                  rw [List.length_append] at h
                  exact h), HBW.out⟩
                case measure => simp [intOf]; omega
        · obtain rfl : j = fs.length := by omega
          have HL := Lib.hid (Lm.curR_all img fs q)
          go_wp2_with fail
          go_roundw
          case rel => exact ⟨k + 1, by omega, by go_num, Lib.hid (by rw [HNX.out, ← HL.out]; exact HOWN.out), hbw⟩
          case measure => simp [intOf]; omega
    · obtain rfl : k = ps.length := by omega
      have HT := Lib.hid (show (ps.take ps.length).flatMap (Lm.lossesR img fs) = Lm.lostR img fs by rw [List.take_length, HOUT.out])
      obtain ⟨LA, lc, rfl⟩ := HOWN.out.slice
      have HO := Lib.hid (show Lm.OwnL wr w.heap.size (.slice LA ((ps.take ps.length).flatMap (Lm.lossesR img fs)).length lc) (Lm.lostR img fs) by
        rw [← HT.out]
        exact Lm.OwnL.base HOWN.out HB2.out.size)
      generalize ((ps.take ps.length).flatMap (Lm.lossesR img fs)).length = nn at *
      go_wp2_with fail
      go_ret2
      exact ⟨_, rfl, HO.out, HB2.out.trans (hbw.mono HB2.out.size)⟩
end Go.Proofs.YtlhechlbmbjffaaDoor

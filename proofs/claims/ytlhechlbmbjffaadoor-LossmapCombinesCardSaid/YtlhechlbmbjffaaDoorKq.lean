/-
  The walk through LossmapBytes.
-/
import Derived.Deep.QuietTactic
import Derived.BigQuiet
import Derived.Test.YtlhechlbmbjffaaDoorKp
import Derived.Test.YtlhechlbmbjffaaDoorKg
namespace Go.Proofs.YtlhechlbmbjffaaDoor
open Go.RowKit
namespace Lm
theorem base_le {img : List ByteArray} {fs : List F} (h : fs.all okF = true) (q : ByteArray) : ∀ j, j ≤ fs.length → (base img fs q j : Int) ≤ bytesF (fs.take j) := by
  intro j
  induction j with
  | zero => intro _; simp [base_zero, bytesF]
  | succ j ih =>
    intro hj
    have h1 := ih (by omega)
    rw [base_succ h q (by omega), bytesF_snoc (by omega)]
    have hf := (okF_iff _).1 (all_get (d := f0) h (show j < fs.length by omega))
    rw [Int.natCast_add]
    split <;> omega
theorem recE_chk {img : List ByteArray} {fs : List F} {q : ByteArray} (h : chkR img fs ≠ 0) : recE img fs q = chkR img fs := if_pos h
end Lm

set_option maxHeartbeats 12800000 in
set_option maxRecDepth 100000 in
/-- LossmapBytes. -/
theorem lawBytes_any (v u : Value) (img : List ByteArray) (fs : List Lm.F) (path : ByteArray) (w : World) (hm : Lm.Strs w v img) (hf : Lm.Files w u fs) (hp : Lm.Pow w) :
    Calls Tryd.prog 4 #[v, u, .string path] w fun e w' => e = .returned (.bool true) ∧ Below w.heap.size w w' := by
  have CA := Lib.hid (awake_any w hp)
  have HM := Lib.hid hm
  have HF := Lib.hid hf
  obtain ⟨A, c, rfl, hlc, hcm⟩ := Lm.Strs.shape hm
  obtain ⟨B, d, rfl, hld, hdm, _⟩ := hf
  unfold maxLen at hcm hdm
  clear hm hp
  go_enter Tryd.func4, Tryd.ntmps4
  go_wp2_with fail
  with_reducible refine CA.out.mono ?_
  rintro e w1 ⟨rfl, hb1⟩
  have CF := Lib.hid (few_any _ _ img fs w1 (HM.out.below hb1) (HF.out.below hb1))
  go_wp2_with fail
  with_reducible refine CF.out.mono ?_
  rintro e w2 ⟨bb, rfl, hsm, hb2⟩
  have HB2 := Lib.hid (hb1.trans (hb2.mono hb1.size))
  clear hb1 hb2 CA CF
  cases bb with
  | false =>
    go_wp2_with fail
    go_ret
    exact ⟨rfl, HB2.out⟩
  | true =>
  have HS := Lib.hid (hsm rfl)
  clear hsm
  have CL := Lib.hid (lost_any _ _ img fs w2 (HM.out.below HB2.out) (HF.out.below HB2.out) (fun j hj => (HS.out.each j hj).1))
  go_wp2_with fail
  with_reducible refine CL.out.mono ?_
  rintro e w3 ⟨r1, rfl, hO3, hb3⟩
  have HB3 := Lib.hid (HB2.out.trans (hb3.mono HB2.out.size))
  have CV := Lib.hid (recover_any _ _ img fs path w3 (HM.out.below HB3.out) (HF.out.below HB3.out) (fun j hj => (HS.out.each j hj).1))
  clear CL hb3 HB2
  by_cases hc : Lm.chkR img fs = 0
  · have HE := Lib.hid (show Lm.recE img fs path = if fs.all (Lm.isN path) = true then 6 else 0 from if_neg (fun h => h hc))
    rw [hc, if_pos rfl] at hO3
    obtain ⟨h7, h50, hall⟩ := Lm.chkR_zero hc
    rw [hc]
    cases hn : fs.all (Lm.isN path) with
    | true =>
      rw [hn, if_pos rfl] at HE
      rw [HE.out, if_neg (by decide)] at CV
      clear HE hc hall h7 h50 hn hO3
      go_wp2_with fail
      with_reducible refine CV.out.mono ?_
      rintro e w4 ⟨rfl, hb4⟩
      go_wp2_with fail
      go_ret
      exact ⟨rfl, HB3.out.trans (hb4.mono HB3.out.size)⟩
    | false =>
      rw [hn, if_neg (by decide)] at HE
      rw [HE.out, if_pos rfl] at CV
      have HALL := Lib.hid hall
      have hN := Lm.rec_base (img := img) hall path fs.length (Nat.le_refl _)
      have hNb := Lm.base_le (img := img) hall path fs.length (Nat.le_refl _)
      rw [List.take_length] at hNb
      have hfit := Lm.fit_all path _ _ rfl (Lm.pieces_consec (img := img) hall fs.length (Nat.le_refl _)).1
      have hofP := Lm.ofP_lost (img := img) hn
      have hsz : (⟨(Lm.recR img fs path).toArray⟩ : ByteArray).size = Lm.base img fs path fs.length := by
        show (Lm.recR img fs path).toArray.size = _
        rw [List.size_toArray]
        exact hN
      have hat : ∀ k (h : k < (⟨(Lm.recR img fs path).toArray⟩ : ByteArray).size), (⟨(Lm.recR img fs path).toArray⟩ : ByteArray)[k]'h = (Lm.recR img fs path).getD k 0 := fun k h => by
        have h2 : k < (Lm.recR img fs path).length := by simpa [ByteArray.size] using h
        rw [List.getD_eq_getElem?_getD, List.getElem?_eq_getElem h2]
        rfl
      have hN2 : Lm.base img fs path fs.length ≤ 1048576 := by have := HS.out.sum; omega
      have HNE := Lib.hid (show Lm.Neat (Lm.base img fs path fs.length) (Lm.ofP path (Lm.lostR img fs)) by rw [hofP]; exact hfit.neat)
      have HGN := Lib.hid (show ∀ k, k < Lm.base img fs path fs.length → Lm.gone path (Lm.lostR img fs) k = (Lm.bits path (Lm.piecesR img fs)).getD k false from fun k hk => by
        unfold Lm.gone
        rw [hofP]
        exact hfit.says k hk)
      have HAF := Lib.hid (fun j (hj : j < fs.length) k hk hq => Lm.at_file (img := img) (j := j) hall hj (k := k) hk (q := path) hq)
      have HBS := Lib.hid (fun j (hj : j < fs.length) => Lm.base_succ (img := img) hall path (j := j) hj)
      clear HE hc h7 h50 hn hN hNb hfit hofP hall
      generalize (⟨(Lm.recR img fs path).toArray⟩ : ByteArray) = s at *
      have HAT := Lib.hid hat
      have HSZ := Lib.hid hsz
      have HL3 := Lib.hid (Lm.OwnL.row hO3)
      clear hat hO3
      generalize hNN : Lm.base img fs path fs.length = N at *
      go_wp2_with fail
      with_reducible refine CV.out.mono ?_
      rintro e w4 ⟨rfl, hb4⟩
      have CG := Lib.hid (lost_neat r1 (Lm.lostR img fs) path N w4 (HL3.out.below hb4) hN2 HNE.out)
      have HB4 := Lib.hid (HB3.out.trans (hb4.mono HB3.out.size))
      clear hb4 CV
      go_wp2_with fail
      with_reducible refine CG.out.mono ?_
      rintro e w5 ⟨gg, rfl, hO5, hb5⟩
      have HB5 := Lib.hid (HB4.out.trans (hb5.mono HB4.out.size))
      have HO5 := Lib.hid hO5
      clear hb5 hO5 CG
      go_wp2_with fail
      go_loopw [13, 15, 16, 17, 18, 59] (fun av _ _ _ _ iv wr => ∃ j : Nat, j ≤ fs.length ∧ iv = .int .i64 j ∧ av = .int .i64 (Lm.base img fs path j : Nat) ∧ Below w5.heap.size w5 wr) (fun _ _ _ _ _ iv _ => fs.length - (intOf iv).toNat)
      case atStart => exact ⟨0, Nat.zero_le _, rfl, rfl, Below.refl _ _⟩
      case round =>
        obtain ⟨j, hj, rfl, rfl, hbr⟩ := hrel
        obtain ⟨wo, rfl⟩ : ∃ wo : World, wo = wr := ⟨_, rfl⟩
        by_cases hlt : j < fs.length
        · have HBO := Lib.hid (show Below w.heap.size w wo from HB5.out.trans (hbr.mono HB5.out.size))
          obtain ⟨B', d', hv', _, _, hcells⟩ := HF.out.below HBO.out
          obtain ⟨bg, bo, rfl, hbl, hcc⟩ := hcells (by omega)
          obtain ⟨rfl, _, rfl⟩ : B = some ⟨bg, bo, none⟩ ∧ fs.length = fs.length ∧ d = d' := by simpa using hv'
          clear hv' hcells
          have q0 := hcc j hlt 0 _ rfl
          have q1 := hcc j hlt 1 _ rfl
          have q2 := hcc j hlt 2 _ rfl
          simp only [Nat.add_zero] at q0
          have hokf := (Lm.okF_iff _).1 (Lm.all_get (d := Lm.f0) HALL.out hlt)
          have HA1 := Lib.hid (HAF.out j hlt)
          have hbs := HBS.out j hlt
          clear hcc
          generalize fs.getD j Lm.f0 = x at *
          obtain ⟨pa, st, ln⟩ := x
          simp only [Lm.fC] at *
          obtain ⟨f1, f2, f3, f4, f5⟩ := hokf
          have hba := (Below.refl wo.heap.size wo).alloc (Nat.le_refl _) (.cells #[.string pa, .int .i64 st, .int .i64 ln] 41)
          have hx := heap_alloc_new wo (.cells #[.string pa, .int .i64 st, .int .i64 ln] 41)
          have HBA := Lib.hid (hbr.trans (hba.mono hbr.size))
          by_cases hpp : pa.toList = path.toList
          · have e1 : (!pa.toList == path.toList) = false := by rw [hpp]; simp
            have hpe : pa = path := by
              have h := hpp
              rw [Lib.toList_data, Lib.toList_data] at h
              cases pa; cases path
              simp at h
              rw [h]
            rw [if_pos hpe] at hbs
            have HA2 := Lib.hid (fun k (hk : k < ln.toNat) => HA1.out k hk hpe)
            have HBS1 := Lib.hid hbs
            clear hpe hpp HA1 hbs
            generalize Lm.base img fs path j = a at *
            go_wp2_with fail
            generalize hwa : wo.alloc (.cells #[.string pa, .int .i64 st, .int .i64 ln] 41) = wa at *
            have HXA := Lib.hid hx
            clear hx hba q0 q1 q2 hwa
            obtain ⟨M, hM⟩ : ∃ M : Nat, (M : Int) = ln := ⟨ln.toNat, by omega⟩
            subst hM
            have hM2 : (M : Int).toNat = M := Int.toNat_natCast M
            rw [hM2] at HA2 HBS1
            go_loopw [13, 16, 17, 18, 69] (fun av _ _ _ kv wr => ∃ k : Nat, k ≤ M ∧ kv = .int .i64 k ∧ av = .int .i64 ((a + k : Nat)) ∧ Below wa.heap.size wa wr) (fun _ _ _ _ kv _ => M - (intOf kv).toNat)
            case atStart => exact ⟨0, Nat.zero_le _, rfl, rfl, Below.refl _ _⟩
            case round =>
              obtain ⟨k, hk, rfl, hav, hbk⟩ := hrel
              obtain ⟨p, hp⟩ : ∃ p : Nat, p = a + k := ⟨_, rfl⟩
              rw [← hp] at hav
              subst hav
              have c1 : wr.cell? ⟨wo.heap.size, 1, none⟩ = some (.int .i64 st) := (hbk.cell (p := ⟨wo.heap.size, 1, none⟩) (Array.getElem?_eq_some_iff.1 HXA.out).1).trans (Lib.cell_of_heap HXA.out 1)
              by_cases hkM : k < M
              · obtain ⟨t1, t2, t3⟩ := HA2.out k hkM
                rw [← hp] at t1 t2 t3
                have HPE := Lib.hid hp
                have hs1 : s[p]'(by rw [HSZ.out]; exact t1) = Lm.byteAt img ⟨pa, st, M⟩ k := (HAT.out p (by rw [HSZ.out]; exact t1)).trans t3
                have hW5 := HBA.out.trans (hbk.mono HBA.out.size)
                have g0 := HO5.out.cell t1
                rw [HGN.out _ t1, t2] at g0
                have g1 := (hW5.cell (p := ⟨gg, p, none⟩) (World.block_lt_of_cell? _ _ g0)).trans g0
                have dge : decide ((N : Int) ≤ (p : Int)) = false := decide_eq_false (by omega)
                have dge' : decide (N ≤ p) = false := decide_eq_false (by omega)
                clear hp
                have HW := Lib.hid (show Below w.heap.size w wr from HB5.out.trans (hW5.mono HB5.out.size))
                have HB6 := Lib.hid hW5
                clear g0 t2 t3 hW5
                obtain ⟨bn, hbn⟩ : ∃ bn : Nat, (bn : Int) = st + (k : Int) / 2048 := ⟨(st + (k : Int) / 2048).toNat, by omega⟩
                obtain ⟨r, hr⟩ : ∃ r : Nat, r = k % 2048 := ⟨_, rfl⟩
                have hr2 : (k : Int) % 2048 = (r : Int) := by omega
                have hr3 : r < 2048 := by omega
                have hbe : st + ((k / 2048 : Nat) : Int) = (bn : Int) := by omega
                unfold Lm.byteAt at hs1
                unfold Lm.lostAt at g1
                simp only [hbe, Int.toNat_natCast, ← hr] at hs1 g1
                cases hrd : Lm.readable img (bn : Int) with
                | true =>
                  rw [hrd, if_pos rfl] at hs1
                  rw [hrd] at g1
                  unfold Lm.readable at hrd
                  simp only [Bool.and_eq_true, decide_eq_true_eq, Int.toNat_natCast] at hrd
                  obtain ⟨hr4, hr5⟩ := hrd
                  obtain ⟨ib, io, ic, hv2, hil, hic⟩ := Lm.Strs.cell (HM.out.below HW.out) (show bn < img.length by omega)
                  obtain ⟨rfl, _, rfl⟩ : A = some ⟨ib, io, none⟩ ∧ img.length = img.length ∧ c = ic := by simpa using hv2
                  clear hv2
                  generalize img.getD bn ⟨#[]⟩ = S at *
                  have hS1 : S[r]'(by rw [hr5]; exact hr3) = S.data.toList.getD r 0 := by
                    have h2 : r < S.data.toList.length := by
                      rw [Array.length_toList]
                      show r < S.size
                      omega
                    rw [List.getD_eq_getElem?_getD, List.getElem?_eq_getElem h2]
                    rfl
                  generalize S.data.toList.getD r 0 = X at *
                  have d1 : decide ((bn : Int) < (img.length : Int)) = true := decide_eq_true (by omega)
                  have d2 : ((S.size : Int) == 2048) = true := by rw [hr5]; rfl
                  have hbn' := hbn.symm
                  have hbl' : bn < img.length := by omega
                  clear hbe hr hbn
                  go_wp2_with fail
                  go_quiet (fail)
                  go_wp2_with fail
                  go_roundw
                  case rel => exact ⟨k + 1, by omega, by go_num, by (have := HPE.out; congr 1; omega), Kit.Below.drewN hbk nq⟩
                  case measure => simp [intOf]; omega
                | false =>
                  rw [hrd, if_neg (by decide)] at hs1
                  rw [hrd] at g1
                  have hbn' := hbn.symm
                  by_cases hbl2 : bn < img.length
                  · obtain ⟨ib, io, ic, hv2, hil, hic⟩ := Lm.Strs.cell (HM.out.below HW.out) hbl2
                    obtain ⟨rfl, _, rfl⟩ : A = some ⟨ib, io, none⟩ ∧ img.length = img.length ∧ c = ic := by simpa using hv2
                    clear hv2
                    unfold Lm.readable at hrd
                    rw [decide_eq_true (show (bn : Int) < img.length by omega), Bool.true_and, Int.toNat_natCast] at hrd
                    generalize img.getD bn ⟨#[]⟩ = S at *
                    have hS := of_decide_eq_false hrd
                    have d1 : decide ((bn : Int) < (img.length : Int)) = true := decide_eq_true (by omega)
                    have d2 : ((S.size : Int) == 2048) = false := by rw [beq_eq_false_iff_ne]; omega
                    clear hbe hr hbn hrd hS
                    go_wp2_with fail
                    go_quiet (fail)
                    go_wp2_with fail
                    go_roundw
                    case rel => exact ⟨k + 1, by omega, by go_num, by (have := HPE.out; congr 1; omega), Kit.Below.drewN hbk nq⟩
                    case measure => simp [intOf]; omega
                  · have d1 : decide ((bn : Int) < (img.length : Int)) = false := decide_eq_false (by omega)
                    clear hbe hr hbn hrd
                    go_wp2_with fail
                    go_quiet (fail)
                    go_wp2_with fail
                    go_roundw
                    case rel => exact ⟨k + 1, by omega, by go_num, by (have := HPE.out; congr 1; omega), Kit.Below.drewN hbk nq⟩
                    case measure => simp [intOf]; omega
              · obtain rfl : k = M := by omega
                subst hp
                go_wp2_with fail
                go_roundw
                case rel => exact ⟨j + 1, by omega, by go_num, by rw [HBS1.out], HBA.out.trans (hbk.mono HBA.out.size)⟩
                case measure => simp [intOf]; omega
          · have e1 : (!pa.toList == path.toList) = true := by simpa using hpp
            rw [if_neg (fun e => hpp (by rw [e])), Nat.add_zero] at hbs
            have HBS1 := Lib.hid hbs
            clear hbs hpp HA1
            go_wp2_with fail
            go_roundw
            case rel => exact ⟨j + 1, by omega, by go_num, by (rw [HBS1.out]; rfl), HBA.out⟩
            case measure => simp [intOf]; omega
        · obtain rfl : j = fs.length := by omega
          rw [hNN]
          go_wp2_with fail
          go_ret
          first
            | exact ⟨rfl, HB5.out.trans (hbr.mono HB5.out.size)⟩
            | exact ⟨by simp, HB5.out.trans (hbr.mono HB5.out.size)⟩
  · have hne : (Lm.chkR img fs == 0) = false := by rw [beq_eq_false_iff_ne]; exact hc
    rw [Lm.recE_chk hc, if_neg hc] at CV
    clear hO3
    generalize Lm.chkR img fs = e0 at *
    go_wp2_with fail
    with_reducible refine CV.out.mono ?_
    rintro e w4 ⟨rfl, hb4⟩
    go_wp2_with fail
    go_ret
    exact ⟨rfl, HB3.out.trans (hb4.mono HB3.out.size)⟩
/-- LossmapBytes, for the frame. -/
theorem lawB_any (v : Value) (img : List ByteArray) (u : Value) (fs : List Lm.F) (path : ByteArray) (w : World) (hm : Kit.RowS w v (Lm.strs img)) (hf : Lm.Files w u fs) (_ : path.size ≤ maxLen) (hp : Lm.Pow w) :
    Calls Tryd.prog 4 #[v, u, .string path] w fun e w' => e = .returned (.bool true) ∧ Below w.heap.size w w' := lawBytes_any v u img fs path w hm.1 hf hp
end Go.Proofs.YtlhechlbmbjffaaDoor

/-
  The walk through the reference's Continues (layer 55), of any two discs.
-/
import Derived.Test.YtiekfipjbmdkpaaGreatDoorFe
namespace Go.Proofs.YtiekfipjbmdkpaaGreatDoor
open Go.RowKit

set_option maxHeartbeats 25600000 in
set_option maxRecDepth 100000 in
/-- masterdiscref55.Continues. -/
theorem rContinues_any (v1 sv1 v2 sv2 : Value) (b1 b2 : List ByteArray) (l1 l2 : List Fi.Se) (w : World) (hm1 : Lm.Strs w v1 b1) (hs1 : Fi.Sess w sv1 l1) (hm2 : Lm.Strs w v2 b2) (hs2 : Fi.Sess w sv2 l2) :
    Calls Tryz.prog 6 #[.agg #[v1, sv1], .agg #[v2, sv2]] w fun e w' => e = .returned (.bool (Fi.contD b1 l1 b2 l2)) ∧ Below w.heap.size w w' := by
  obtain ⟨R, HR⟩ : ∃ R, Hid (R = Fi.contD b1 l1 b2 l2) := ⟨_, Lib.hid rfl⟩
  rw [← HR.out]
  have HM1 := Lib.hid hm1
  have HS1 := Lib.hid hs1
  have HM2 := Lib.hid hm2
  have HS2 := Lib.hid hs2
  obtain ⟨A, c, rfl, hlc, hcm, _⟩ := hm1
  obtain ⟨D, d, rfl, hld, hdm, _⟩ := hs1
  obtain ⟨A2, c2, rfl, hlc2, hcm2, _⟩ := hm2
  obtain ⟨D2, d2, rfl, hld2, hdm2, _⟩ := hs2
  rw [Lm.strs_length] at *
  rw [Lm.strs_length] at *
  unfold maxLen at hcm hdm hcm2 hdm2
  have HX := Lib.hid (Fi.boxes w (.slice A b1.length c) (.slice D l1.length d) (.slice A2 b2.length c2) (.slice D2 l2.length d2) 26)
  have CA := Lib.hid (fun W hb => rValidD_any _ _ b1 l1 W (HM1.out.below hb) (HS1.out.below hb))
  have CB := Lib.hid (fun W hb => rValidD_any _ _ b2 l2 W (HM2.out.below hb) (HS2.out.below hb))
  obtain ⟨x0, x1, y0, y1, hsz, hbA⟩ := HX.out
  have HBA := Lib.hid hbA
  clear hsz hbA
  go_enter Tryz.func6, Tryz.ntmps6
  go_wp2_with fail
  with_reducible refine (CA.out _ HBA.out).mono ?_
  rintro e w2 ⟨rfl, hb2⟩
  have hbk : Below (w.heap.size + 2) ((w.alloc (.cells #[.slice A b1.length c, .slice D l1.length d] 26)).alloc (.cells #[.slice A2 b2.length c2, .slice D2 l2.length d2] 26)) w2 := by rw [HX.out.2.2.2.2.1] at hb2; exact hb2
  have hb02 := HBA.out.trans (hbk.mono (by omega))
  clear hb2 x0 x1 y0 y1
  have x0 := (hbk.cell (p := ⟨w.heap.size, 0, none⟩) (by show w.heap.size < _; omega)).trans HX.out.1
  have x1 := (hbk.cell (p := ⟨w.heap.size, 1, none⟩) (by show w.heap.size < _; omega)).trans HX.out.2.1
  have y0 := (hbk.cell (p := ⟨w.heap.size + 1, 0, none⟩) (by show w.heap.size + 1 < _; omega)).trans HX.out.2.2.1
  have y1 := (hbk.cell (p := ⟨w.heap.size + 1, 1, none⟩) (by show w.heap.size + 1 < _; omega)).trans HX.out.2.2.2.1
  have hsz2 : w.heap.size + 2 ≤ w2.heap.size := by have := hbk.size; rw [HX.out.2.2.2.2.1] at this; exact this
  have HB2 := Lib.hid hb02
  have HX2 := Lib.hid (And.intro x0 (And.intro x1 (And.intro y0 y1)))
  clear hbk hb02 HX HBA CA
  cases hva : Fi.validD b1 l1 with
  | false =>
    have HR' := Lib.hid (HR.out.trans (Fi.contD_left hva))
    clear hva
    go_wp2_with fail
    go_ret
    rw [HR'.out]
    exact ⟨rfl, HB2.out⟩
  | true =>
  have HVA := Lib.hid hva
  clear hva
  go_wp2_with fail
  with_reducible refine (CB.out _ HB2.out).mono ?_
  rintro e w3 ⟨rfl, hb3⟩
  clear x0 x1 y0 y1 CB
  have x0 := (hb3.cell (p := ⟨w.heap.size, 0, none⟩) (by show w.heap.size < _; omega)).trans HX2.out.1
  have x1 := (hb3.cell (p := ⟨w.heap.size, 1, none⟩) (by show w.heap.size < _; omega)).trans HX2.out.2.1
  have y0 := (hb3.cell (p := ⟨w.heap.size + 1, 0, none⟩) (by show w.heap.size + 1 < _; omega)).trans HX2.out.2.2.1
  have y1 := (hb3.cell (p := ⟨w.heap.size + 1, 1, none⟩) (by show w.heap.size + 1 < _; omega)).trans HX2.out.2.2.2
  have hsz3 : w.heap.size + 2 ≤ w3.heap.size := Nat.le_trans hsz2 hb3.size
  have HB3 := Lib.hid (HB2.out.trans (hb3.mono HB2.out.size))
  have HX3 := Lib.hid (And.intro x0 (And.intro x1 (And.intro y0 y1)))
  clear hb3 HB2 HX2 hsz2
  cases hvb : Fi.validD b2 l2 with
  | false =>
    have HR' := Lib.hid (HR.out.trans (Fi.contD_right hvb))
    clear hvb
    go_wp2_with fail
    go_ret
    rw [HR'.out]
    exact ⟨rfl, HB3.out⟩
  | true =>
  have HVB := Lib.hid hvb
  have HL2 := Lib.hid (Fi.validD_ses hvb)
  have HM1' := Lib.hid (HM1.out.below HB3.out)
  have HM2' := Lib.hid (HM2.out.below HB3.out)
  have CT1 := Lib.hid (fun z W (hb : Below w3.heap.size w3 W) => r55Element_any b1 _ z W (HM1'.out.below hb))
  have CT2 := Lib.hid (fun z W (hb : Below w3.heap.size w3 W) => r55Element_any b2 _ z W (HM2'.out.below hb))
  clear hvb
  go_wp2_with fail
  clear x0 x1 y0 y1
  go_loopw [5, 6, 7] (fun iv _ _ wr => ∃ j : Nat, j ≤ l2.length ∧ iv = .int .i64 j ∧ Hid (∀ i, i < j → (l2.getD i Fi.se0).closed = true → (i < l1.length ∧ l1.getD i Fi.se0 = l2.getD i Fi.se0) ∧ Fi.Alike b1 b2 (l2.getD i Fi.se0).start (l2.getD i Fi.se0).count) ∧ Below w3.heap.size w3 wr) (fun iv _ _ _ => l2.length - (intOf iv).toNat)
  case atStart => exact ⟨0, by omega, rfl, Lib.hid (fun i hi => absurd hi (by omega)), Below.refl _ _⟩
  case round =>
    obtain ⟨wq, hwq⟩ : ∃ x, x = wr := ⟨_, rfl⟩
    subst hwq
    obtain ⟨k, hj, rfl, HP, hbr⟩ := hrel
    have HBR := Lib.hid hbr
    have x0 := (hbr.cell (p := ⟨w.heap.size, 0, none⟩) (by show w.heap.size < _; omega)).trans HX3.out.1
    have x1 := (hbr.cell (p := ⟨w.heap.size, 1, none⟩) (by show w.heap.size < _; omega)).trans HX3.out.2.1
    have y0 := (hbr.cell (p := ⟨w.heap.size + 1, 0, none⟩) (by show w.heap.size + 1 < _; omega)).trans HX3.out.2.2.1
    have y1 := (hbr.cell (p := ⟨w.heap.size + 1, 1, none⟩) (by show w.heap.size + 1 < _; omega)).trans HX3.out.2.2.2
    have hszr : w.heap.size + 2 ≤ wq.heap.size := Nat.le_trans hsz3 hbr.size
    by_cases hlt : k < l2.length
    · obtain ⟨p, o, c', hv, hpl, q0, q1, q2⟩ := Fi.row3 ((HS2.out.below HB3.out).below hbr) hlt
      obtain ⟨rfl, _, rfl⟩ : D2 = some ⟨p, o, none⟩ ∧ l2.length = l2.length ∧ d2 = c' := by simpa using hv
      clear hv
      have HBS := Lib.hid (HBR.out.alloc HBR.out.size (.cells #[.int .i64 (l2.getD k Fi.se0).start, .int .i64 (l2.getD k Fi.se0).count, .bool (l2.getD k Fi.se0).closed] 49))
      have HBSE := Lib.hid (HB3.out.trans (HBS.out.mono HB3.out.size))
      have HZ := Lib.hid (Fi.box3 wq (.int .i64 (l2.getD k Fi.se0).start) (.int .i64 (l2.getD k Fi.se0).count) (.bool (l2.getD k Fi.se0).closed) 49)
      have HIN := Lib.hid (Fi.ses_in HL2.out.1 hlt)
      have HBAD := Lib.hid (fun hc h => HR.out.trans (Fi.contD_pairs (a := b1) (b := b2) (s := l1) hlt hc h))
      have HF := Lib.hid (fun (hc : (l2.getD k Fi.se0).closed = true) z h1 h2 h => HR.out.trans (Fi.contD_blocks (a := b1) (b := b2) (s := l1) (t := l2) (x := ((l2.getD k Fi.se0).start, (l2.getD k Fi.se0).count)) (Fi.closedTo_mem.2 ⟨k, hlt, hc, rfl⟩) (z := z) h1 h2 h))
      have HGOOD := Lib.hid (show ((l2.getD k Fi.se0).closed = true → (k < l1.length ∧ l1.getD k Fi.se0 = l2.getD k Fi.se0) ∧ Fi.Alike b1 b2 (l2.getD k Fi.se0).start (l2.getD k Fi.se0).count) → ∀ i, i < k + 1 → (l2.getD i Fi.se0).closed = true → (i < l1.length ∧ l1.getD i Fi.se0 = l2.getD i Fi.se0) ∧ Fi.Alike b1 b2 (l2.getD i Fi.se0).start (l2.getD i Fi.se0).count by
        intro h i hi
        by_cases hik : i = k
        · subst hik; exact h
        · exact HP.out i (by omega))
      generalize l2.getD k Fi.se0 = s at *
      obtain ⟨s0, s1, s2⟩ := s
      simp only [] at *
      have hn0 : w.heap.size ≠ wq.heap.size := by omega
      have hn1 : w.heap.size + 1 ≠ wq.heap.size := by omega
      have HAL := Lib.hid ((Below.refl wq.heap.size wq).alloc (Nat.le_refl _) (.cells #[.int .i64 s0, .int .i64 s1, .bool s2] 49))
      have HX1 := Lib.hid ((HAL.out.cell (p := ⟨w.heap.size, 1, none⟩) (by show w.heap.size < _; omega)).trans x1)
      have HX0 := Lib.hid ((HAL.out.cell (p := ⟨w.heap.size, 0, none⟩) (by show w.heap.size < _; omega)).trans x0)
      have HY0 := Lib.hid ((HAL.out.cell (p := ⟨w.heap.size + 1, 0, none⟩) (by show w.heap.size + 1 < _; omega)).trans y0)
      clear hbr HP
      cases s2 with
      | false =>
        have HG := Lib.hid (HGOOD.out (by simp))
        clear HBAD HGOOD HZ
        go_wp2_with fail
        go_roundw
        case rel => exact ⟨k + 1, by omega, by go_num, HG, HBS.out⟩
        case measure => simp [intOf]; omega
      | true =>
        by_cases hk1 : k < l1.length
        · obtain ⟨p1, o1, c1, hv, hpl1, r0, r1, r2⟩ := Fi.row3 ((HS1.out.below HB3.out).below HBR.out) hk1
          obtain ⟨rfl, _, rfl⟩ : D = some ⟨p1, o1, none⟩ ∧ l1.length = l1.length ∧ d = c1 := by simpa using hv
          clear hv
          have hk1' : (k : Int) < (l1.length : Int) := by omega
          have g1 : decide ((l1.length : Int) ≤ (k : Int)) = false := decide_eq_false (by omega)
          have g2 : decide (l1.length ≤ k) = false := decide_eq_false (by omega)
          generalize l1.getD k Fi.se0 = t at *
          obtain ⟨t0, t1, t2⟩ := t
          simp only [] at *
          have HRR := Lib.hid (And.intro ((HAL.out.cell (p := ⟨p1, o1 + k * 3, none⟩) hpl1).trans r0) (And.intro ((HAL.out.cell (p := ⟨p1, o1 + k * 3 + 1, none⟩) hpl1).trans r1) ((HAL.out.cell (p := ⟨p1, o1 + k * 3 + 2, none⟩) hpl1).trans r2)))
          have hnp : p1 ≠ wq.heap.size := by omega
          by_cases e0 : t0 = s0
          · by_cases e1 : t1 = s1
            · cases t2 with
              | true =>
                subst e0 e1
                have HG := Lib.hid (show Fi.Alike b1 b2 t0 t1 → _ from fun ha => HGOOD.out (fun _ => ⟨⟨hk1, rfl⟩, ha⟩))
                have HF' := Lib.hid (fun z h1 h2 h => HF.out (by trivial) z h1 h2 h)
                clear HBAD HGOOD HF
                go_wp2_with fail
                have x1s := HX1.out
                obtain ⟨r0s, r1s, r2s⟩ := HRR.out
                obtain ⟨z0s, z1s, z2s⟩ := HZ.out
                have HZ2 := Lib.hid HZ.out
                clear x0 x1 y0 y1 r0 r1 r2 q0 q1 q2 HRR HZ HX1 HAL
                go_quiet (fail)
                have hwb := Fi.drewN HBS.out nq
                have z0s' := z0s
                have z1s' := z1s
                obtain ⟨hs0, _, hn0', hsn, _⟩ := HIN.out
                have hwr := IntWalk.wrap64_in (t0 + t1) (by omega)
                clear x1s r0s r1s r2s z2s z0s z1s
                go_wp2_with fail
                have hsq : (wq.alloc (.cells #[.int .i64 t0, .int .i64 t1, .bool true] 49)).heap.size = wq.heap.size + 1 := by simp
                generalize wq.alloc (.cells #[.int .i64 t0, .int .i64 t1, .bool true] 49) = wa at *
                have hsqb : (wa.drewN nq).heap.size = wq.heap.size + 1 := by rw [← hsq]; rfl
                have HK := Lib.hid (show (wa.drewN nq).cell? ⟨wq.heap.size, 0, none⟩ = some (.int .i64 t0) ∧ (wa.drewN nq).cell? ⟨wq.heap.size, 1, none⟩ = some (.int .i64 t1) ∧ (wa.drewN nq).cell? ⟨w.heap.size, 0, none⟩ = some (.slice A b1.length c) ∧ (wa.drewN nq).cell? ⟨w.heap.size + 1, 0, none⟩ = some (.slice A2 b2.length c2) from ⟨z0s', z1s', HX0.out, HY0.out⟩)
                clear z0s' z1s' HX0 HY0 HZ2 hsq
                have HWB := Lib.hid hwb
                clear hwb HBS HBSE
                generalize wa.drewN nq = wb at *
                go_loopw [7] (fun zv wz => ∃ z : Int, t0 ≤ z ∧ z ≤ t0 + t1 ∧ zv = .int .i64 z ∧ Hid (∀ y, t0 ≤ y → y < z → Ex.elem b1 y = Ex.elem b2 y) ∧ Below wb.heap.size wb wz) (fun zv _ => (t0 + t1 - intOf zv).toNat)
                case atStart => exact ⟨t0, by omega, by omega, rfl, Lib.hid (fun y h1 h2 => absurd h1 (by omega)), Below.refl _ _⟩
                case round =>
                  obtain ⟨z, hz0, hz1, rfl, HE, hbz⟩ := hrel
                  have z0 := (hbz.cell (p := ⟨wq.heap.size, 0, none⟩) (by rw [hsqb]; show wq.heap.size < _; omega)).trans HK.out.1
                  have z1 := (hbz.cell (p := ⟨wq.heap.size, 1, none⟩) (by rw [hsqb]; show wq.heap.size < _; omega)).trans HK.out.2.1
                  have x0 := (hbz.cell (p := ⟨w.heap.size, 0, none⟩) (by rw [hsqb]; show w.heap.size < _; omega)).trans HK.out.2.2.1
                  have y0 := (hbz.cell (p := ⟨w.heap.size + 1, 0, none⟩) (by rw [hsqb]; show w.heap.size + 1 < _; omega)).trans HK.out.2.2.2
                  have HBZ := Lib.hid hbz
                  have HWZ := Lib.hid (HWB.out.trans (hbz.mono HWB.out.size))
                  by_cases hzn : z < t0 + t1
                  · have C1 := Lib.hid (fun W hb => CT1.out z W hb)
                    have C2 := Lib.hid (fun W hb => CT2.out z W hb)
                    have g0 : decide (z < t0 + t1) = true := decide_eq_true hzn
                    have HF2 := Lib.hid (fun h => HF'.out z hz0 hzn h)
                    have HE2 := Lib.hid (show Ex.elem b1 z = Ex.elem b2 z → ∀ y, t0 ≤ y → y < z + 1 → Ex.elem b1 y = Ex.elem b2 y by
                      intro h y h1 h2
                      by_cases hy : y = z
                      · subst hy; exact h
                      · exact HE.out y h1 (by omega))
                    have HBZE := Lib.hid (HB3.out.trans (HWZ.out.mono HB3.out.size))
                    generalize Ex.elem b1 z = q1 at *
                    generalize Ex.elem b2 z = q2 at *
                    clear hbz HE
                    by_cases heq : q1 = q2
                    · have HG2 := Lib.hid (HE2.out heq)
                      subst heq
                      clear HE2 HF2
                      go_wp2_with fail
                      go_quiet ((go_at_call 17; first | with_reducible exact Calls.quiet_of_same (C1.out _ (Fi.drewN HWZ.out _)) | with_reducible exact Calls.quiet_of_same (C2.out _ (Fi.drewN HWZ.out _))))
                      go_wp2_with fail
                      go_roundw
                      case rel => exact ⟨z + 1, by omega, by omega, by go_num, HG2, Fi.drewN HBZ.out _⟩
                      case measure => simp [intOf]; omega
                    · have HR' := Lib.hid (HF2.out heq)
                      have hne : (q1.toList == q2.toList) = false := by
                        rw [beq_eq_false_iff_ne]
                        intro h
                        exact heq (by rw [(Lm.str_eq q1 q2.toList).1 h]; exact ((Lm.str_eq q2 q2.toList).1 rfl).symm)
                      clear HE2 HF2
                      go_wp2_with fail
                      go_quiet ((go_at_call 17; first | with_reducible exact Calls.quiet_of_same (C1.out _ (Fi.drewN HWZ.out _)) | with_reducible exact Calls.quiet_of_same (C2.out _ (Fi.drewN HWZ.out _))))
                      go_wp2_with fail
                      go_ret
                      rw [HR'.out]
                      exact ⟨rfl, Fi.drewN HBZE.out _⟩
                  · obtain rfl : z = t0 + t1 := by omega
                    have g0 : decide (t0 + t1 < t0 + t1) = false := decide_eq_false (by omega)
                    have HG2 := Lib.hid (HG.out (fun y h1 h2 => HE.out y h1 h2))
                    clear hbz HE HF'
                    go_wp2_with fail
                    go_roundw
                    case rel => exact ⟨k + 1, by omega, by go_num, HG2, HWZ.out⟩
                    case measure => simp [intOf]; omega
              | false =>
                have HR' := Lib.hid (HBAD.out (by trivial) (fun h => by have := h.2; simp at this))
                subst e0 e1
                clear HBAD HGOOD HF
                go_wp2_with fail
                have x1s := HX1.out
                obtain ⟨r0s, r1s, r2s⟩ := HRR.out
                obtain ⟨z0s, z1s, z2s⟩ := HZ.out
                clear x0 x1 y0 y1 r0 r1 r2 q0 q1 q2 HRR HZ HX1 HAL
                go_quiet (fail)
                go_wp2_with fail
                go_ret
                rw [HR'.out]
                exact ⟨rfl, Fi.drewN HBSE.out _⟩
            · have HR' := Lib.hid (HBAD.out (by trivial) (fun h => by have := h.2; simp at this; exact e1 this.2.1))
              have e1' : (t1 == s1) = false := by simpa using e1
              subst e0
              clear HBAD HGOOD HF
              go_wp2_with fail
              have x1s := HX1.out
              obtain ⟨r0s, r1s, r2s⟩ := HRR.out
              obtain ⟨z0s, z1s, z2s⟩ := HZ.out
              clear x0 x1 y0 y1 r0 r1 r2 q0 q1 q2 HRR HZ HX1 HAL
              go_quiet (fail)
              go_wp2_with fail
              go_ret
              rw [HR'.out]
              exact ⟨rfl, Fi.drewN HBSE.out _⟩
          · have HR' := Lib.hid (HBAD.out (by trivial) (fun h => by have := h.2; simp at this; exact e0 this.1))
            have e0' : (t0 == s0) = false := by simpa using e0
            clear HBAD HGOOD HF
            go_wp2_with fail
            have x1s := HX1.out
            obtain ⟨r0s, r1s, r2s⟩ := HRR.out
            obtain ⟨z0s, z1s, z2s⟩ := HZ.out
            clear x0 x1 y0 y1 r0 r1 r2 q0 q1 q2 HRR HZ HX1 HAL
            go_quiet (fail)
            go_wp2_with fail
            go_ret
            rw [HR'.out]
            exact ⟨rfl, Fi.drewN HBSE.out _⟩
        · have HR' := Lib.hid (HBAD.out (by trivial) (fun h => hk1 h.1))
          have g1 : decide ((l1.length : Int) ≤ (k : Int)) = true := decide_eq_true (by omega)
          have g2 : decide (l1.length ≤ k) = true := decide_eq_true (by omega)
          clear HBAD HGOOD HZ HF
          go_wp2_with fail
          have x1s := HX1.out
          clear x0 x1 y0 y1 q0 q1 q2 HX1 HAL
          go_quiet (fail)
          go_wp2_with fail
          go_ret
          rw [HR'.out]
          exact ⟨rfl, Fi.drewN HBSE.out _⟩
    · obtain rfl : k = l2.length := by omega
      have HBE := Lib.hid (HB3.out.trans (hbr.mono HB3.out.size))
      have HR' := Lib.hid (HR.out.trans (Fi.contD_true HVA.out HVB.out (fun i hi hc => (HP.out i hi hc).1) (fun x hx => by
        obtain ⟨i, hi, hc, rfl⟩ := Fi.closedTo_mem.1 hx
        exact (HP.out i hi hc).2)))
      clear HP hbr HX3
      go_wp2_with fail
      go_ret
      rw [HR'.out]
      exact ⟨rfl, HBE.out⟩
end Go.Proofs.YtiekfipjbmdkpaaGreatDoor

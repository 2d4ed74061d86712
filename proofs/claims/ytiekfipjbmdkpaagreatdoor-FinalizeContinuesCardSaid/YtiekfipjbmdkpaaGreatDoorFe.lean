/-
  The walk through finalize.Continues, of any two discs.
-/
import Derived.Test.YtiekfipjbmdkpaaGreatDoorFd
namespace Go.Proofs.YtiekfipjbmdkpaaGreatDoor
open Go.RowKit
namespace Fi
/-- The boxes of two discs, one behind the other. -/
theorem boxes (w : World) (x y z u : Value) (T : TypeId) :
    ((w.alloc (.cells #[x, y] T)).alloc (.cells #[z, u] T)).cell? ⟨w.heap.size, 0, none⟩ = some x ∧ ((w.alloc (.cells #[x, y] T)).alloc (.cells #[z, u] T)).cell? ⟨w.heap.size, 1, none⟩ = some y ∧
    ((w.alloc (.cells #[x, y] T)).alloc (.cells #[z, u] T)).cell? ⟨w.heap.size + 1, 0, none⟩ = some z ∧ ((w.alloc (.cells #[x, y] T)).alloc (.cells #[z, u] T)).cell? ⟨w.heap.size + 1, 1, none⟩ = some u ∧
    ((w.alloc (.cells #[x, y] T)).alloc (.cells #[z, u] T)).heap.size = w.heap.size + 2 ∧ Below w.heap.size w ((w.alloc (.cells #[x, y] T)).alloc (.cells #[z, u] T)) := by
  have h1 := box2 w x y T
  have h2 := box2 (w.alloc (.cells #[x, y] T)) z u T
  have hs : (w.alloc (.cells #[x, y] T)).heap.size = w.heap.size + 1 := by simp
  rw [hs] at h2
  have hb := (Below.refl (w.heap.size + 1) (w.alloc (.cells #[x, y] T))).alloc (by omega) (.cells #[z, u] T)
  refine ⟨?_, ?_, h2.1, h2.2, by simp, ?_⟩
  · rw [← h1.1]; exact hb.cell (p := ⟨w.heap.size, 0, none⟩) (by show w.heap.size < _; omega)
  · rw [← h1.2]; exact hb.cell (p := ⟨w.heap.size, 1, none⟩) (by show w.heap.size < _; omega)
  · exact ((Below.refl _ w).alloc (Nat.le_refl _) _).trans (hb.mono (by omega))
theorem sp_row {w : World} {base : Nat} {v : Value} {L : List (Int × Int)} (h : Pm.OwnS w base v L) {j : Nat} (hj : j < L.length) : ∃ b o c, v = .slice (some ⟨b, o, none⟩) L.length c ∧ b < w.heap.size ∧
    w.cell? ⟨b, o + j * 2, none⟩ = some (.int .i64 (L.getD j (0, 0)).1) ∧ w.cell? ⟨b, o + j * 2 + 1, none⟩ = some (.int .i64 (L.getD j (0, 0)).2) := by
  obtain ⟨A, c, rfl, _, _, h3⟩ := h.row
  obtain ⟨b, o, rfl, hb, hc⟩ := h3 (by omega)
  exact ⟨b, o, c, rfl, hb, hc j hj 0 _ rfl, hc j hj 1 _ rfl⟩
theorem drewN {B : Nat} {w w' : World} (h : Below B w w') (n : Nat) : Below B w (w'.drewN n) := ⟨h.os, h.tape, h.output, h.size, h.block⟩
theorem getD_mem {α : Type} {l : List α} {d : α} {i : Nat} (h : i < l.length) : l.getD i d ∈ l := by
  rw [List.getD_eq_getElem?_getD, List.getElem?_eq_getElem h, Option.getD_some]
  exact List.getElem_mem h
theorem mem_getD {α : Type} {l : List α} {d x : α} (h : x ∈ l) : ∃ i, i < l.length ∧ l.getD i d = x := by
  obtain ⟨i, hi, rfl⟩ := List.mem_iff_getElem.1 h
  exact ⟨i, hi, by rw [List.getD_eq_getElem?_getD, List.getElem?_eq_getElem hi, Option.getD_some]⟩
end Fi

set_option maxHeartbeats 25600000 in
set_option maxRecDepth 100000 in
/-- finalize.Continues. -/
theorem continues_any (v1 sv1 v2 sv2 : Value) (b1 b2 : List ByteArray) (l1 l2 : List Fi.Se) (w : World) (hm1 : Lm.Strs w v1 b1) (hs1 : Fi.Sess w sv1 l1) (hm2 : Lm.Strs w v2 b2) (hs2 : Fi.Sess w sv2 l2) :
    Calls Tryz.prog 5 #[.agg #[v1, sv1], .agg #[v2, sv2]] w fun e w' => e = .returned (.bool (Fi.contD b1 l1 b2 l2)) ∧ Below w.heap.size w w' := by
  obtain ⟨R, HR⟩ : ∃ R, Hid (R = Fi.contD b1 l1 b2 l2) := ⟨_, Lib.hid rfl⟩
  rw [← HR.out]
  have HM1 := Lib.hid hm1
  have HS1 := Lib.hid hs1
  have HM2 := Lib.hid hm2
  have HS2 := Lib.hid hs2
  obtain ⟨A, c, rfl, hlc, hcm, _⟩ := hm1
  obtain ⟨D, d, rfl, hld, hdm, _⟩ := hs1
  obtain ⟨A2, c2, rfl, hlc2, hcm2, _⟩ := hm2
  obtain ⟨D2, d2, rfl, hld2, hdm2, _⟩ := hs2
  rw [Lm.strs_length] at *
  rw [Lm.strs_length] at *
  unfold maxLen at hcm hdm hcm2 hdm2
  have HX := Lib.hid (Fi.boxes w (.slice A b1.length c) (.slice D l1.length d) (.slice A2 b2.length c2) (.slice D2 l2.length d2) 26)
  have CA := Lib.hid (fun W hb => mValidD_any _ _ b1 l1 W (HM1.out.below hb) (HS1.out.below hb))
  have CB := Lib.hid (fun W hb => mValidD_any _ _ b2 l2 W (HM2.out.below hb) (HS2.out.below hb))
  have CC := Lib.hid (fun W hb => closed_any _ _ b2 l2 W (HM2.out.below hb) (HS2.out.below hb))
  obtain ⟨x0, x1, y0, y1, hsz, hbA⟩ := HX.out
  have HBA := Lib.hid hbA
  clear hsz hbA
  go_enter Tryz.func5, Tryz.ntmps5
  go_wp2_with fail
  with_reducible refine (CA.out _ HBA.out).mono ?_
  rintro e w2 ⟨rfl, hb2⟩
  have hbk : Below (w.heap.size + 2) ((w.alloc (.cells #[.slice A b1.length c, .slice D l1.length d] 26)).alloc (.cells #[.slice A2 b2.length c2, .slice D2 l2.length d2] 26)) w2 := by rw [HX.out.2.2.2.2.1] at hb2; exact hb2
  have hb02 := HBA.out.trans (hbk.mono (by omega))
  clear hb2 x0 x1 y0 y1
  have x0 := (hbk.cell (p := ⟨w.heap.size, 0, none⟩) (by show w.heap.size < _; omega)).trans HX.out.1
  have x1 := (hbk.cell (p := ⟨w.heap.size, 1, none⟩) (by show w.heap.size < _; omega)).trans HX.out.2.1
  have y0 := (hbk.cell (p := ⟨w.heap.size + 1, 0, none⟩) (by show w.heap.size + 1 < _; omega)).trans HX.out.2.2.1
  have y1 := (hbk.cell (p := ⟨w.heap.size + 1, 1, none⟩) (by show w.heap.size + 1 < _; omega)).trans HX.out.2.2.2.1
  have hsz2 : w.heap.size + 2 ≤ w2.heap.size := by have := hbk.size; rw [HX.out.2.2.2.2.1] at this; exact this
  have HB2 := Lib.hid hb02
  have HX2 := Lib.hid (And.intro x0 (And.intro x1 (And.intro y0 y1)))
  clear hbk hb02 HX HBA CA
  cases hva : Fi.validD b1 l1 with
  | false =>
    have HR' := Lib.hid (HR.out.trans (Fi.contD_left hva))
    clear hva
    go_wp2_with fail
    go_ret
    rw [HR'.out]
    exact ⟨rfl, HB2.out⟩
  | true =>
  have HVA := Lib.hid hva
  clear hva
  go_wp2_with fail
  with_reducible refine (CB.out _ HB2.out).mono ?_
  rintro e w3 ⟨rfl, hb3⟩
  clear x0 x1 y0 y1 CB
  have x0 := (hb3.cell (p := ⟨w.heap.size, 0, none⟩) (by show w.heap.size < _; omega)).trans HX2.out.1
  have x1 := (hb3.cell (p := ⟨w.heap.size, 1, none⟩) (by show w.heap.size < _; omega)).trans HX2.out.2.1
  have y0 := (hb3.cell (p := ⟨w.heap.size + 1, 0, none⟩) (by show w.heap.size + 1 < _; omega)).trans HX2.out.2.2.1
  have y1 := (hb3.cell (p := ⟨w.heap.size + 1, 1, none⟩) (by show w.heap.size + 1 < _; omega)).trans HX2.out.2.2.2
  have hsz3 : w.heap.size + 2 ≤ w3.heap.size := Nat.le_trans hsz2 hb3.size
  have HB3 := Lib.hid (HB2.out.trans (hb3.mono HB2.out.size))
  have HX3 := Lib.hid (And.intro x0 (And.intro x1 (And.intro y0 y1)))
  clear hb3 HB2 HX2 hsz2
  cases hvb : Fi.validD b2 l2 with
  | false =>
    have HR' := Lib.hid (HR.out.trans (Fi.contD_right hvb))
    clear hvb
    go_wp2_with fail
    go_ret
    rw [HR'.out]
    exact ⟨rfl, HB3.out⟩
  | true =>
  have HVB := Lib.hid hvb
  have HL2 := Lib.hid (Fi.validD_ses hvb)
  clear hvb
  go_wp2_with fail
  clear x0 x1 y0 y1
  go_loopw [5, 7, 22] (fun kv _ iv wr => ∃ j : Nat, ∃ k : Nat, j ≤ l2.length ∧ iv = .int .i64 j ∧ kv = .int .i64 k ∧ k ≤ j ∧ (j < l2.length → k = j) ∧ Hid (∀ i, i < j → (l2.getD i Fi.se0).closed = true → i < l1.length ∧ l1.getD i Fi.se0 = l2.getD i Fi.se0) ∧ Below w3.heap.size w3 wr) (fun _ _ iv _ => l2.length - (intOf iv).toNat)
  case atStart => exact ⟨0, 0, by omega, rfl, rfl, by omega, fun _ => rfl, Lib.hid (fun i hi => absurd hi (by omega)), Below.refl _ _⟩
  case round =>
    obtain ⟨j, k, hj, rfl, rfl, hkj, hk, HP, hbr⟩ := hrel
    have HBR := Lib.hid hbr
    have x0 := (hbr.cell (p := ⟨w.heap.size, 0, none⟩) (by show w.heap.size < _; omega)).trans HX3.out.1
    have x1 := (hbr.cell (p := ⟨w.heap.size, 1, none⟩) (by show w.heap.size < _; omega)).trans HX3.out.2.1
    have y0 := (hbr.cell (p := ⟨w.heap.size + 1, 0, none⟩) (by show w.heap.size + 1 < _; omega)).trans HX3.out.2.2.1
    have y1 := (hbr.cell (p := ⟨w.heap.size + 1, 1, none⟩) (by show w.heap.size + 1 < _; omega)).trans HX3.out.2.2.2
    have hszr : w.heap.size + 2 ≤ wr.heap.size := Nat.le_trans hsz3 hbr.size
    by_cases hlt : j < l2.length
    · obtain rfl : k = j := hk hlt
      obtain ⟨p, o, c', hv, hpl, q0, q1, q2⟩ := Fi.row3 ((HS2.out.below HB3.out).below hbr) hlt
      obtain ⟨rfl, _, rfl⟩ : D2 = some ⟨p, o, none⟩ ∧ l2.length = l2.length ∧ d2 = c' := by simpa using hv
      clear hv hk hkj
      have HBS := Lib.hid (HBR.out.alloc HBR.out.size (.cells #[.int .i64 (l2.getD k Fi.se0).start, .int .i64 (l2.getD k Fi.se0).count, .bool (l2.getD k Fi.se0).closed] 49))
      have HBSE := Lib.hid (HB3.out.trans (HBS.out.mono HB3.out.size))
      have HZ := Lib.hid (Fi.box3 wr (.int .i64 (l2.getD k Fi.se0).start) (.int .i64 (l2.getD k Fi.se0).count) (.bool (l2.getD k Fi.se0).closed) 49)
      have HIN := Lib.hid (Fi.ses_in HL2.out.1 hlt).2.2.2.2
      have HBAD := Lib.hid (fun hc h => HR.out.trans (Fi.contD_pairs (a := b1) (b := b2) (s := l1) hlt hc h))
      have HGOOD := Lib.hid (show ((l2.getD k Fi.se0).closed = true → k < l1.length ∧ l1.getD k Fi.se0 = l2.getD k Fi.se0) → ∀ i, i < k + 1 → (l2.getD i Fi.se0).closed = true → i < l1.length ∧ l1.getD i Fi.se0 = l2.getD i Fi.se0 by
        intro h i hi
        by_cases hik : i = k
        · subst hik; exact h
        · exact HP.out i (by omega))
      generalize l2.getD k Fi.se0 = s at *
      obtain ⟨s0, s1, s2⟩ := s
      simp only [] at *
      have hn0 : w.heap.size ≠ wr.heap.size := by omega
      have hn1 : w.heap.size + 1 ≠ wr.heap.size := by omega
      have HAL := Lib.hid ((Below.refl wr.heap.size wr).alloc (Nat.le_refl _) (.cells #[.int .i64 s0, .int .i64 s1, .bool s2] 49))
      have HX1 := Lib.hid ((HAL.out.cell (p := ⟨w.heap.size, 1, none⟩) (by show w.heap.size < _; omega)).trans x1)
      clear hbr HP
      cases s2 with
      | false =>
        have HG := Lib.hid (HGOOD.out (by simp))
        have hlast : ¬ k + 1 < l2.length := fun h => by have := HIN.out h; cases this
        clear HBAD HGOOD HZ
        go_wp2_with fail
        go_roundw
        case rel => exact ⟨k + 1, k, by omega, by go_num, rfl, by omega, by omega, HG, HBS.out⟩
        case measure => simp [intOf]; omega
      | true =>
        by_cases hk1 : k < l1.length
        · obtain ⟨p1, o1, c1, hv, hpl1, r0, r1, r2⟩ := Fi.row3 ((HS1.out.below HB3.out).below HBR.out) hk1
          obtain ⟨rfl, _, rfl⟩ : D = some ⟨p1, o1, none⟩ ∧ l1.length = l1.length ∧ d = c1 := by simpa using hv
          clear hv
          have hk1' : (k : Int) < (l1.length : Int) := by omega
          have g1 : decide ((l1.length : Int) ≤ (k : Int)) = false := decide_eq_false (by omega)
          have g2 : decide (l1.length ≤ k) = false := decide_eq_false (by omega)
          generalize l1.getD k Fi.se0 = t at *
          obtain ⟨t0, t1, t2⟩ := t
          simp only [] at *
          have HRR := Lib.hid (And.intro ((HAL.out.cell (p := ⟨p1, o1 + k * 3, none⟩) hpl1).trans r0) (And.intro ((HAL.out.cell (p := ⟨p1, o1 + k * 3 + 1, none⟩) hpl1).trans r1) ((HAL.out.cell (p := ⟨p1, o1 + k * 3 + 2, none⟩) hpl1).trans r2)))
          have hnp : p1 ≠ wr.heap.size := by omega
          by_cases e0 : t0 = s0
          · by_cases e1 : t1 = s1
            · cases t2 with
              | true =>
                subst e0 e1
                have HG := Lib.hid (HGOOD.out (fun _ => ⟨hk1, rfl⟩))
                clear HBAD HGOOD
                go_wp2_with fail
                have x1s := HX1.out
                obtain ⟨r0s, r1s, r2s⟩ := HRR.out
                obtain ⟨z0s, z1s, z2s⟩ := HZ.out
                clear x0 x1 y0 y1 r0 r1 r2 q0 q1 q2 HRR HZ HX1 HAL
                go_quiet (fail)
                go_wp2_with fail
                go_roundw
                case rel => exact ⟨k + 1, k + 1, by omega, by go_num, by go_num, by omega, by omega, HG, Fi.drewN HBS.out _⟩
                case measure => simp [intOf]; omega
              | false =>
                have HR' := Lib.hid (HBAD.out (by trivial) (fun h => by have := h.2; simp at this))
                subst e0 e1
                clear HBAD HGOOD
                go_wp2_with fail
                have x1s := HX1.out
                obtain ⟨r0s, r1s, r2s⟩ := HRR.out
                obtain ⟨z0s, z1s, z2s⟩ := HZ.out
                clear x0 x1 y0 y1 r0 r1 r2 q0 q1 q2 HRR HZ HX1 HAL
                go_quiet (fail)
                go_wp2_with fail
                go_ret
                rw [HR'.out]
                exact ⟨rfl, Fi.drewN HBSE.out _⟩
            · have HR' := Lib.hid (HBAD.out (by trivial) (fun h => by have := h.2; simp at this; exact e1 this.2.1))
              have e1' : (t1 == s1) = false := by simpa using e1
              subst e0
              clear HBAD HGOOD
              go_wp2_with fail
              have x1s := HX1.out
              obtain ⟨r0s, r1s, r2s⟩ := HRR.out
              obtain ⟨z0s, z1s, z2s⟩ := HZ.out
              clear x0 x1 y0 y1 r0 r1 r2 q0 q1 q2 HRR HZ HX1 HAL
              go_quiet (fail)
              go_wp2_with fail
              go_ret
              rw [HR'.out]
              exact ⟨rfl, Fi.drewN HBSE.out _⟩
          · have HR' := Lib.hid (HBAD.out (by trivial) (fun h => by have := h.2; simp at this; exact e0 this.1))
            have e0' : (t0 == s0) = false := by simpa using e0
            clear HBAD HGOOD
            go_wp2_with fail
            have x1s := HX1.out
            obtain ⟨r0s, r1s, r2s⟩ := HRR.out
            obtain ⟨z0s, z1s, z2s⟩ := HZ.out
            clear x0 x1 y0 y1 r0 r1 r2 q0 q1 q2 HRR HZ HX1 HAL
            go_quiet (fail)
            go_wp2_with fail
            go_ret
            rw [HR'.out]
            exact ⟨rfl, Fi.drewN HBSE.out _⟩
        · have HR' := Lib.hid (HBAD.out (by trivial) (fun h => hk1 h.1))
          have g1 : decide ((l1.length : Int) ≤ (k : Int)) = true := decide_eq_true (by omega)
          have g2 : decide (l1.length ≤ k) = true := decide_eq_true (by omega)
          clear HBAD HGOOD HZ
          go_wp2_with fail
          have x1s := HX1.out
          clear x0 x1 y0 y1 q0 q1 q2 HX1 HAL
          go_quiet (fail)
          go_wp2_with fail
          go_ret
          rw [HR'.out]
          exact ⟨rfl, Fi.drewN HBSE.out _⟩
    · obtain rfl : j = l2.length := by omega
      have HPA := Lib.hid (show Fi.Pairs l1 l2 from HP.out)
      have HBE := Lib.hid (HB3.out.trans (hbr.mono HB3.out.size))
      have HX4 := Lib.hid (And.intro x0 (And.intro x1 (And.intro y0 y1)))
      clear HP hk hbr HX3
      go_wp2_with fail
      with_reducible refine (CC.out _ HBE.out).mono ?_
      rintro e w4 ⟨r, rfl, hown, hb4⟩
      rw [HVB.out, if_pos rfl] at hown
      have HO := Lib.hid hown
      clear x0 x1 y0 y1
      have x0 := (hb4.cell (p := ⟨w.heap.size, 0, none⟩) (by show w.heap.size < _; omega)).trans HX4.out.1
      have y0 := (hb4.cell (p := ⟨w.heap.size + 1, 0, none⟩) (by show w.heap.size + 1 < _; omega)).trans HX4.out.2.2.1
      have hsz4 : w.heap.size + 2 ≤ w4.heap.size := Nat.le_trans hszr hb4.size
      have HB4 := Lib.hid (HBE.out.trans (hb4.mono HBE.out.size))
      have HX5 := Lib.hid (And.intro x0 y0)
      have HMEM := Lib.hid (fun (x : Int × Int) (hx : x ∈ Fi.closedL l2) => Fi.closedTo_mem.1 hx)
      obtain ⟨A9, c9, rfl, h91, h92, _⟩ := hown.row
      unfold maxLen at h92
      clear hown hb4 HX4 HBE CC x0 y0
      have HRT := Lib.hid (fun h => HR.out.trans (Fi.contD_true HVA.out HVB.out HPA.out h))
      have HRF := Lib.hid (fun (x : Int × Int) (hx : x ∈ Fi.closedL l2) z h1 h2 h => HR.out.trans (Fi.contD_blocks (a := b1) (b := b2) (s := l1) hx (z := z) h1 h2 h))
      have HINL := Lib.hid (fun (x : Int × Int) (hx : x ∈ Fi.closedL l2) => show 0 ≤ x.1 ∧ 1 ≤ x.2 ∧ x.1 + x.2 ≤ 4096 by
        obtain ⟨i, hi, _, rfl⟩ := HMEM.out x hx
        obtain ⟨g0, g1, g2, g3, _⟩ := Fi.ses_in HL2.out.1 hi
        exact ⟨g0, g2, g3⟩)
      have HM1' := Lib.hid (HM1.out.below HB4.out)
      have HM2' := Lib.hid (HM2.out.below HB4.out)
      have CT1 := Lib.hid (fun z W (hb : Below w4.heap.size w4 W) => fAt_any b1 _ z W (HM1'.out.below hb))
      have CT2 := Lib.hid (fun z W (hb : Below w4.heap.size w4 W) => fAt_any b2 _ z W (HM2'.out.below hb))
      generalize Fi.closedL l2 = L at *
      clear HMEM HPA HVA HVB HL2 HM1 HM2 HS1 HS2 HM1' HM2'
      go_wp2_with fail
      go_loopw [9, 10, 49] (fun _ _ iv wq => ∃ j : Nat, j ≤ L.length ∧ iv = .int .i64 j ∧ Hid (∀ i, i < j → Fi.Alike b1 b2 (L.getD i (0, 0)).1 (L.getD i (0, 0)).2) ∧ Below w4.heap.size w4 wq) (fun _ _ iv _ => L.length - (intOf iv).toNat)
      case atStart => exact ⟨0, by omega, rfl, Lib.hid (fun i hi => absurd hi (by omega)), Below.refl _ _⟩
      case round =>
        obtain ⟨wq, hwq⟩ : ∃ x, x = wr := ⟨_, rfl⟩
        subst hwq
        obtain ⟨i, hi, rfl, HAL, hbq⟩ := hrel
        by_cases hlt2 : i < L.length
        · obtain ⟨p, o, c', hv, hpl, q0, q1⟩ := Fi.sp_row HO.out hlt2
          obtain ⟨rfl, _, rfl⟩ : A9 = some ⟨p, o, none⟩ ∧ L.length = L.length ∧ c9 = c' := by simpa using hv
          clear hv
          have z0 := (hbq.cell (p := ⟨p, o + i * 2, none⟩) hpl).trans q0
          have z1 := (hbq.cell (p := ⟨p, o + i * 2 + 1, none⟩) hpl).trans q1
          have hmem := Fi.getD_mem (d := ((0 : Int), (0 : Int))) hlt2
          have HIN := Lib.hid (HINL.out _ hmem)
          have HF := Lib.hid (fun z h1 h2 h => HRF.out _ hmem z h1 h2 h)
          have HNX := Lib.hid (show Fi.Alike b1 b2 (L.getD i (0, 0)).1 (L.getD i (0, 0)).2 → ∀ k, k < i + 1 → Fi.Alike b1 b2 (L.getD k (0, 0)).1 (L.getD k (0, 0)).2 by
            intro h k hk
            by_cases hki : k = i
            · subst hki; exact h
            · exact HAL.out k (by omega))
          generalize L.getD i (0, 0) = x at *
          obtain ⟨s, n⟩ := x
          simp only [] at *
          have HW := Lib.hid (hbq.alloc hbq.size (.cells #[.int .i64 s, .int .i64 n] 43))
          have HZ := Lib.hid (Fi.box2 wq (.int .i64 s) (.int .i64 n) 43)
          have HSQ := Lib.hid hbq.size
          have hsq : (wq.alloc (.cells #[.int .i64 s, .int .i64 n] 43)).heap.size = wq.heap.size + 1 := by simp
          obtain ⟨hs0, hn0, hsn⟩ := HIN.out
          have hwr := IntWalk.wrap64_in (s + n) (by omega)
          clear hbq q0 q1 hmem HAL
          go_wp2_with fail
          have HX6 := Lib.hid (show (wq.alloc (.cells #[.int .i64 s, .int .i64 n] 43)).cell? ⟨w.heap.size, 0, none⟩ = some (.slice A b1.length c) ∧ (wq.alloc (.cells #[.int .i64 s, .int .i64 n] 43)).cell? ⟨w.heap.size + 1, 0, none⟩ = some (.slice A2 b2.length c2) from
            ⟨(HW.out.cell (p := ⟨w.heap.size, 0, none⟩) (by show w.heap.size < _; omega)).trans HX5.out.1, (HW.out.cell (p := ⟨w.heap.size + 1, 0, none⟩) (by show w.heap.size + 1 < _; omega)).trans HX5.out.2⟩)
          generalize wq.alloc (.cells #[.int .i64 s, .int .i64 n] 43) = wb at *
          go_loopw [10] (fun zv wz => ∃ z : Int, s ≤ z ∧ z ≤ s + n ∧ zv = .int .i64 z ∧ Hid (∀ y, s ≤ y → y < z → Ex.elem b1 y = Ex.elem b2 y) ∧ Below wb.heap.size wb wz) (fun zv _ => (s + n - intOf zv).toNat)
          case atStart => exact ⟨s, by omega, by omega, rfl, Lib.hid (fun y h1 h2 => absurd h1 (by omega)), Below.refl _ _⟩
          case round =>
            obtain ⟨z, hz0, hz1, rfl, HE, hbz⟩ := hrel
            have z0 := (hbz.cell (p := ⟨wq.heap.size, 0, none⟩) (by rw [hsq]; show wq.heap.size < _; omega)).trans HZ.out.1
            have z1 := (hbz.cell (p := ⟨wq.heap.size, 1, none⟩) (by rw [hsq]; show wq.heap.size < _; omega)).trans HZ.out.2
            have hl0 : w.heap.size < wb.heap.size := by have := HW.out.size; omega
            have hl1 : w.heap.size + 1 < wb.heap.size := by have := HW.out.size; omega
            have x0 := (hbz.cell (p := ⟨w.heap.size, 0, none⟩) hl0).trans HX6.out.1
            have y0 := (hbz.cell (p := ⟨w.heap.size + 1, 0, none⟩) hl1).trans HX6.out.2
            have HBZ := Lib.hid hbz
            have HWZ := Lib.hid (HW.out.trans (hbz.mono HW.out.size))
            by_cases hzn : z < s + n
            · have C1 := Lib.hid (fun W hb => CT1.out z W hb)
              have C2 := Lib.hid (fun W hb => CT2.out z W hb)
              have g0 : decide (z < s + n) = true := decide_eq_true hzn
              have HF2 := Lib.hid (fun h => HF.out z hz0 hzn h)
              have HE2 := Lib.hid (show Ex.elem b1 z = Ex.elem b2 z → ∀ y, s ≤ y → y < z + 1 → Ex.elem b1 y = Ex.elem b2 y by
                intro h y h1 h2
                by_cases hy : y = z
                · subst hy; exact h
                · exact HE.out y h1 (by omega))
              have HBZE := Lib.hid (HB4.out.trans (HWZ.out.mono HB4.out.size))
              generalize Ex.elem b1 z = q1 at *
              generalize Ex.elem b2 z = q2 at *
              clear hbz HE
              by_cases heq : q1 = q2
              · have HG := Lib.hid (HE2.out heq)
                subst heq
                clear HE2 HF2
                go_wp2_with fail
                go_quiet ((go_at_call 15; first | with_reducible exact Calls.quiet_of_same (C1.out _ (Fi.drewN HWZ.out _)) | with_reducible exact Calls.quiet_of_same (C2.out _ (Fi.drewN HWZ.out _))))
                go_wp2_with fail
                go_roundw
                case rel => exact ⟨z + 1, by omega, by omega, by go_num, HG, Fi.drewN HBZ.out _⟩
                case measure => simp [intOf]; omega
              · have HR' := Lib.hid (HF2.out heq)
                have hne : (q1.toList == q2.toList) = false := by
                  rw [beq_eq_false_iff_ne]
                  intro h
                  exact heq (by rw [(Lm.str_eq q1 q2.toList).1 h]; exact ((Lm.str_eq q2 q2.toList).1 rfl).symm)
                clear HE2 HF2
                go_wp2_with fail
                go_quiet ((go_at_call 15; first | with_reducible exact Calls.quiet_of_same (C1.out _ (Fi.drewN HWZ.out _)) | with_reducible exact Calls.quiet_of_same (C2.out _ (Fi.drewN HWZ.out _))))
                go_wp2_with fail
                go_ret
                rw [HR'.out]
                exact ⟨rfl, Fi.drewN HBZE.out _⟩
            · obtain rfl : z = s + n := by omega
              have g0 : decide (s + n < s + n) = false := decide_eq_false (by omega)
              have HG := Lib.hid (HNX.out (fun y h1 h2 => HE.out y h1 h2))
              clear hbz HE HF HNX
              go_wp2_with fail
              go_roundw
              case rel => exact ⟨i + 1, by omega, by go_num, HG, HWZ.out⟩
              case measure => simp [intOf]; omega
        · obtain rfl : i = L.length := by omega
          have HR' := Lib.hid (HRT.out (fun x hx => by
            obtain ⟨k, hk, rfl⟩ := Fi.mem_getD (d := ((0 : Int), (0 : Int))) hx
            exact HAL.out k hk))
          have HBE := Lib.hid (HB4.out.trans (hbq.mono HB4.out.size))
          clear hbq HAL
          go_wp2_with fail
          go_ret
          rw [HR'.out]
          exact ⟨rfl, HBE.out⟩
end Go.Proofs.YtiekfipjbmdkpaaGreatDoor

/-
  The walk through masterdiscref37.Translate.
-/
import Derived.Test.YtlcdhlfkffkifaaGreatDoorZT
import Derived.Test.YtlcdhlfkffkifaaGreatDoorZI
import Derived.Test.YtlcdhlfkffkifaaGreatDoorZB
namespace Go.Proofs.YtlcdhlfkffkifaaGreatDoor
open Go.RowKit
attribute [local go_sem ↓] Go.wp_at_zero Go.wp_at_succ

/-- Two boxes made one behind the other, seen from a later world. -/
theorem two_box {w w3 : World} {cs ds : Array Value} {T U : TypeId} (hb : Below ((w.alloc (.cells cs T)).alloc (.cells ds U)).heap.size ((w.alloc (.cells cs T)).alloc (.cells ds U)) w3) :
    (∀ (q : Nat) u, cs[q]? = some u → w3.cell? ⟨w.heap.size, q, none⟩ = some u) ∧ (∀ (q : Nat) u, ds[q]? = some u → w3.cell? ⟨w.heap.size + 1, q, none⟩ = some u) ∧ Below w.heap.size w w3 ∧ w.heap.size + 1 + 1 ≤ w3.heap.size := by
  have hs := hb.size
  simp only [World.size_alloc] at hs
  refine ⟨fun q u hu => ?_, fun q u hu => ?_, ?_, hs⟩
  · refine (hb.cell (p := ⟨w.heap.size, q, none⟩) (by simp; omega)).trans ?_
    refine (((Below.refl (w.heap.size + 1) (w.alloc (.cells cs T))).alloc (by simp) (.cells ds U)).cell (p := ⟨w.heap.size, q, none⟩) (by simp)).trans ?_
    rw [World.cell?_alloc_at _ _ _ _ (by simp)]
    simpa using hu
  · refine (hb.cell (p := ⟨w.heap.size + 1, q, none⟩) (by simp)).trans ?_
    have h1 : (w.alloc (.cells cs T)).heap.size = w.heap.size + 1 := by simp
    rw [World.cell?_alloc_at _ _ _ _ (by simp)]
    simpa using hu
  · exact (((Below.refl _ w).alloc (Nat.le_refl _) _).alloc (by simp) _).trans (hb.mono (by simp; omega))

set_option maxHeartbeats 25600000 in
set_option maxRecDepth 100000 in
/-- masterdiscref37.Translate. -/
theorem rTranslate_any (m : Pm.Mp) (v0 v1 v2 v3 : Value) (A4 : Option Addr) (n4 c4 : Nat) (T : Nat → Value) (b p : Int) (w : World) (hm : Pm.MpFew m) (hp : Pm.MpAt w m v1 v2) (hl : Pm.MapsAt w v0 m.maps T) (hf : Pm.Few m.maps) (hx : Pm.ExtsAt w v3 m.mdat) (hb0 : -9223372036854775808 ≤ b) (hb1 : b ≤ 9223372036854775807) :
    Calls Tryz.prog 22 #[Pm.mpV m v0 v1 v2 v3 (.slice A4 n4 c4), .agg #[.int .i64 b, .int .i64 p]] w fun e w' => e = .returned (.tuple #[.int .i64 (Pm.transR m b p).1, .int .i64 (Pm.transR m b p).2]) ∧ Below w.heap.size w w' := by
  have hf8 := hf.1
  have HP := Lib.hid hp
  have HF := Lib.hid hm
  have HX := Lib.hid hx
  obtain ⟨A0, c0, rfl, hlc, hcm, hcells⟩ := hl.row
  obtain ⟨A1, c1, hv1, hlc1, hcm1, _⟩ := hp.vat
  obtain ⟨A2, c2, hv2, hlc2, hcm2, _⟩ := hp.spares
  obtain ⟨A3, c3, hv3, hlc3, hcm3, _⟩ := hx.row
  subst hv1 hv2 hv3
  rw [Kit.izs_length] at *
  have HCE := Lib.hid hcells
  have HI := Lib.hid hl.ints
  unfold maxLen at hcm hcm1 hcm2
  have hvat := hm.vats
  have hsps := hm.sps
  have hc1 := hm.c1
  clear hcells hm hp hl hf hx hcm3
  by_cases hb : p < 0 ∨ (m.maps.length : Int) ≤ p
  · have HR := Lib.hid (show Pm.transR m b p = (0, 1) by unfold Pm.transR; rw [if_pos hb])
    generalize Pm.transR m b p = R at *
    clear HP HF HCE HX HI hc1
    unfold Pm.mpV
    obtain ⟨maps, s, n, vat, sps, me⟩ := m
    simp only [] at *
    by_cases h0 : p < 0
    · have d0 : decide (p < 0) = true := decide_eq_true h0
      go_enter Tryz.func22, Tryz.ntmps22
      go_wp2_with fail
      go_ret2
      rw [HR.out]
      exact ⟨rfl, ((Below.refl _ _).alloc (Nat.le_refl _) _).alloc (by simp) _⟩
    · have d0 : decide (p < 0) = false := decide_eq_false h0
      have d1 : decide ((maps.length : Int) ≤ p) = true := decide_eq_true (by omega)
      go_enter Tryz.func22, Tryz.ntmps22
      go_wp2_with fail
      go_ret2
      rw [HR.out]
      exact ⟨rfl, ((Below.refl _ _).alloc (Nat.le_refl _) _).alloc (by simp) _⟩
  · obtain ⟨j, rfl⟩ := Int.eq_ofNat_of_zero_le (show 0 ≤ p by omega)
    have hj : j < m.maps.length := by omega
    have d0 : decide ((j : Int) < 0) = false := decide_eq_false (by omega)
    have d1 : decide ((m.maps.length : Int) ≤ (j : Int)) = false := decide_eq_false (by omega)
    have CPh := Lib.hid (fun r W => rPhysical_any m A0 A1 A2 A3 A4 m.maps.length m.vat.length m.spares.length m.mdat.length n4 c0 c1 c2 c3 c4 r W HF.out)
    have CLo := Lib.hid (fun W h => rLocate_any (.slice A3 m.mdat.length c3) m.mdat b W h hb0 hb1)
    obtain ⟨g, o, rfl, hbl, hc⟩ := HCE.out (by omega)
    have hc0 := hc j hj 0 _ rfl
    have hi64 := (HI.out j hj).kind
    rw [Nat.add_zero] at hc0
    have HTR := Lib.hid (show Pm.transR m b (j : Int) = if (m.maps.getD j Pm.none).kind = 0 then Pm.phys m b
      else if (m.maps.getD j Pm.none).kind = 1 then (if b < 0 ∨ (m.vat.length : Int) ≤ b then (0, 2) else if m.vat.getD b.toNat 0 = 4294967295 then (0, 6) else Pm.phys m (m.vat.getD b.toNat 0))
      else if (m.maps.getD j Pm.none).kind = 2 then (if (Pm.phys m b).2 ≠ 0 then (0, (Pm.phys m b).2) else (Pm.spare m.spares b (Pm.phys m b).1, 0))
      else if (m.maps.getD j Pm.none).kind = 3 then (if (Pm.locX m.mdat b).2.2 ≠ 0 then (0, 2) else Pm.phys m (Pm.locX m.mdat b).1.1)
      else (0, 14) by unfold Pm.transR; rw [if_neg hb, Int.toNat_natCast])
    clear hb hc HCE HI
    generalize (m.maps.getD j Pm.none).kind = k at *
    by_cases hk : k < 0 ∨ 3 < k
    · have e0 : ¬ k = 0 := by omega
      have e1 : ¬ k = 1 := by omega
      have e2 : ¬ k = 2 := by omega
      have e3 : ¬ k = 3 := by omega
      have HQ := Lib.hid (HTR.out.trans (by rw [if_neg e0, if_neg e1, if_neg e2, if_neg e3]))
      clear e0 e1 e2 e3
      clear HTR CPh CLo HP HF HX
      generalize Pm.transR m b (j : Int) = R at *
      unfold Pm.mpV at *
      obtain ⟨maps, s, n, vat, sps, me⟩ := m
      simp only [] at *
      by_cases hk0 : k < 0
      · have dk : decide (k < 0) = true := decide_eq_true hk0
        clear hk
        go_enter Tryz.func22, Tryz.ntmps22
        go_wp2_with fail
        go_ret2
        rw [HQ.out]
        exact ⟨rfl, ((Below.refl _ _).alloc (Nat.le_refl _) _).alloc (by simp) _⟩
      · have dk : decide (k < 0) = false := decide_eq_false hk0
        have dk3 : decide (3 < k) = true := decide_eq_true (hk.resolve_left hk0)
        clear hk
        go_enter Tryz.func22, Tryz.ntmps22
        go_wp2_with fail
        go_ret2
        rw [HQ.out]
        exact ⟨rfl, ((Below.refl _ _).alloc (Nat.le_refl _) _).alloc (by simp) _⟩
    · have hk' := not_or.1 hk
      have dk : decide (k < 0) = false := decide_eq_false hk'.1
      have dk3 : decide (3 < k) = false := decide_eq_false hk'.2
      clear hk'
      have eM : (w.alloc (.cells #[.slice (some ⟨g, o, none⟩) m.maps.length c0, .int .i64 m.start, .int .i64 m.count, .slice A1 m.vat.length c1, .slice A2 m.spares.length c2, .slice A3 m.mdat.length c3, .slice A4 n4 c4] 41)).heap.size = w.heap.size + 1 := by simp
      have hbw : Below w.heap.size w ((w.alloc (.cells #[.slice (some ⟨g, o, none⟩) m.maps.length c0, .int .i64 m.start, .int .i64 m.count, .slice A1 m.vat.length c1, .slice A2 m.spares.length c2, .slice A3 m.mdat.length c3, .slice A4 n4 c4] 41)).alloc (.cells #[.int .i64 b, .int .i64 j] 43)) := ((Below.refl _ _).alloc (Nat.le_refl _) _).alloc (by simp) _
      have HBW := Lib.hid hbw
      clear eM hbw
      by_cases k1 : k = 1
      · have e0 : ¬ k = 0 := by omega
        have HQ := Lib.hid (HTR.out.trans (by rw [if_neg e0, if_pos k1]))
        clear e0
        clear HTR CLo HX HF hk
        subst k1
        by_cases g0 : b < 0
        · have HQ2 := Lib.hid (HQ.out.trans (if_pos (Or.inl g0)))
          have db : decide (b < 0) = true := decide_eq_true g0
          clear HQ CPh HP
          generalize Pm.transR m b (j : Int) = R at *
          unfold Pm.mpV at *
          obtain ⟨maps, s, n, vat, sps, me⟩ := m
          simp only [] at *
          go_enter Tryz.func22, Tryz.ntmps22
          go_wp2_with fail
          go_ret2
          rw [HQ2.out]
          exact ⟨rfl, ((Below.refl _ _).alloc (Nat.le_refl _) _).alloc (by simp) _⟩
        have db : decide (b < 0) = false := decide_eq_false g0
        by_cases g1 : (m.vat.length : Int) ≤ b
        · have HQ2 := Lib.hid (HQ.out.trans (if_pos (Or.inr g1)))
          have db1 : decide ((m.vat.length : Int) ≤ b) = true := decide_eq_true g1
          clear HQ CPh HP
          generalize Pm.transR m b (j : Int) = R at *
          unfold Pm.mpV at *
          obtain ⟨maps, s, n, vat, sps, me⟩ := m
          simp only [] at *
          go_enter Tryz.func22, Tryz.ntmps22
          go_wp2_with fail
          go_ret2
          rw [HQ2.out]
          exact ⟨rfl, ((Below.refl _ _).alloc (Nat.le_refl _) _).alloc (by simp) _⟩
        have db1 : decide ((m.vat.length : Int) ≤ b) = false := decide_eq_false g1
        have HQ2 := Lib.hid (HQ.out.trans (if_neg (by omega)))
        obtain ⟨i, rfl⟩ := Int.eq_ofNat_of_zero_le (show 0 ≤ b by omega)
        have hi : i < m.vat.length := by omega
        rw [Int.toNat_natCast] at HQ2
        obtain ⟨gv, ov, cv, hv', hbv, hcv⟩ := HP.out.vat.at_izs hi
        obtain ⟨rfl, _, rfl⟩ : A1 = some ⟨gv, ov, none⟩ ∧ m.vat.length = m.vat.length ∧ c1 = cv := by simpa using hv'
        clear hv' HQ HP g0 g1
        have CQ := Lib.hid (CPh.out (m.vat.getD i 0))
        have hi0 : (0 : Int) ≤ (i : Int) := by omega
        have hi1 : (i : Int) < (m.vat.length : Int) := by omega
        clear CPh
        generalize m.vat.getD i 0 = x at *
        by_cases hu : x = 4294967295
        · have HQ3 := Lib.hid (HQ2.out.trans (if_pos hu))
          subst hu
          clear HQ2 CQ
          generalize Pm.transR m (i : Int) (j : Int) = R at *
          unfold Pm.mpV at *
          obtain ⟨maps, s, n, vat, sps, me⟩ := m
          simp only [] at *
          go_enter Tryz.func22, Tryz.ntmps22
          go_wp2_with fail
          go_ret2
          rw [HQ3.out]
          exact ⟨rfl, ((Below.refl _ _).alloc (Nat.le_refl _) _).alloc (by simp) _⟩
        · have HQ3 := Lib.hid (HQ2.out.trans (if_neg hu))
          have du : (x == 4294967295) = false := by rw [beq_eq_false_iff_ne]; exact hu
          clear hu
          clear HQ2
          generalize Pm.transR m (i : Int) (j : Int) = R at *
          generalize Pm.phys m x = Q at *
          unfold Pm.mpV at *
          obtain ⟨maps, s, n, vat, sps, me⟩ := m
          obtain ⟨Q1, Q2⟩ := Q
          simp only [] at *
          go_enter Tryz.func22, Tryz.ntmps22
          go_wp2_with fail
          go_region_with (with_reducible refine (CQ.out _).mono ?_; rintro e w2 ⟨rfl, hb2⟩)
          all_goals
            go_wp2_with fail
            go_ret2
            rw [HQ3.out]
            exact ⟨rfl, ((((Below.refl _ _).alloc (Nat.le_refl _) _).alloc (by simp) _).drew).trans (hb2.mono (B' := w.heap.size) (by simp; omega))⟩
      by_cases k3 : k = 3
      · have e0 : ¬ k = 0 := by rw [k3]; decide
        have e2 : ¬ k = 2 := by rw [k3]; decide
        have HQ := Lib.hid (HTR.out.trans (by rw [if_neg e0, if_neg k1, if_neg e2, if_pos k3]))
        clear e0 e2 k1 HTR hk HF HP hvat hsps hc1
        subst k3
        unfold locV at CLo
        generalize Pm.transR m b (j : Int) = R at *
        have HX2 := Lib.hid (HX.out.below HBW.out)
        clear HX
        generalize Pm.locX m.mdat b = r at *
        obtain ⟨⟨rb, rp⟩, rk, re⟩ := r
        have CQ := Lib.hid (CPh.out rb)
        clear CPh
        generalize Pm.phys m rb = Q at *
        unfold Pm.mpV at *
        obtain ⟨maps, s, n, vat, sps, me⟩ := m
        obtain ⟨Q1, Q2⟩ := Q
        simp only [] at *
        by_cases he : re = 0
        · have HQ2 := Lib.hid (HQ.out.trans (if_neg (fun h => h he)))
          subst he
          clear HQ
          go_enter Tryz.func22, Tryz.ntmps22
          go_wp2_with fail
          refine (CLo.out _ HX2.out).mono ?_
          rintro e w2 ⟨rfl, hb2⟩
          have h2 := two_box hb2
          have hlt : w.heap.size < w2.heap.size := by have := h2.2.2.2; omega
          have hby : ∀ q u, (#[.slice (some ⟨g, o, none⟩) maps.length c0, .int .i64 s, .int .i64 n, .slice A1 vat.length c1, .slice A2 sps.length c2, .slice A3 me.length c3, .slice A4 n4 c4] : Array Value)[q]? = some u → (w2.alloc (.cells #[.int .i64 rb, .int .i64 rp] 43)).cell? ⟨w.heap.size, q, none⟩ = some u := fun q u hu =>
            (((Below.refl w2.heap.size w2).alloc (Nat.le_refl _) _).cell (p := ⟨w.heap.size, q, none⟩) hlt).trans (h2.1 q u hu)
          have x0 := hby 0 _ rfl
          have x1 := hby 1 _ rfl
          have x2 := hby 2 _ rfl
          have x3 := hby 3 _ rfl
          have x4 := hby 4 _ rfl
          have x5 := hby 5 _ rfl
          have x6 := hby 6 _ rfl
          have HB2 := Lib.hid h2.2.2.1
          clear hby h2 hb2 CLo HX2
          go_wp2_with fail
          refine (CQ.out _).mono ?_
          rintro e w3 ⟨rfl, hb3⟩
          go_wp2_with fail
          go_ret2
          rw [HQ2.out]
          exact ⟨rfl, HB2.out.trans (((Below.refl _ w2).alloc (Nat.le_refl _) _).trans (hb3.mono (by simp)) |>.mono HB2.out.size)⟩
        · have HQ2 := Lib.hid (HQ.out.trans (if_pos he))
          have de : (re != 0) = true := by rw [bne_iff_ne]; exact he
          clear CQ he HQ
          go_enter Tryz.func22, Tryz.ntmps22
          go_wp2_with fail
          refine (CLo.out _ HX2.out).mono ?_
          rintro e w2 ⟨rfl, hb2⟩
          have h2 := two_box hb2
          have HB2 := Lib.hid h2.2.2.1
          clear h2 hb2 CLo HX2
          go_wp2_with fail
          go_ret2
          rw [HQ2.out]
          exact ⟨rfl, HB2.out.trans ((Below.refl _ w2).alloc (Nat.le_refl _) _ |>.mono HB2.out.size)⟩
      clear HX CLo
      have CQ := Lib.hid (CPh.out b)
      clear CPh
      by_cases k0 : k = 0
      · have HQ := Lib.hid (HTR.out.trans (if_pos k0))
        clear HTR HP HF hk k1 k3 hvat hsps hc1
        subst k0
        generalize Pm.transR m b (j : Int) = R at *
        generalize Pm.phys m b = Q at *
        unfold Pm.mpV at *
        obtain ⟨maps, s, n, vat, sps, me⟩ := m
        obtain ⟨Q1, Q2⟩ := Q
        simp only [] at *
        go_enter Tryz.func22, Tryz.ntmps22
        go_wp2_with fail
        refine (CQ.out _).mono ?_
        rintro e w2 ⟨rfl, hb2⟩
        have h2 := two_box hb2
        have HB2 := Lib.hid h2.2.2.1
        clear h2 hb2
        go_wp2_with fail
        go_ret2
        rw [HQ.out]
        exact ⟨rfl, HB2.out⟩
      have k2 : k = 2 := by omega
      have HQ := Lib.hid (HTR.out.trans (by rw [if_neg k0, if_neg k1, if_pos k2]))
      clear HTR hk k0 k1 k3
      subst k2
      have hph : Pm.phys m b = if b < 0 ∨ m.count ≤ b then (0, 2) else (m.start + b, 0) := rfl
      by_cases g0 : b < 0 ∨ m.count ≤ b
      · have hP : Pm.phys m b = (0, 2) := by rw [hph, if_pos g0]
        rw [hP] at CQ HQ
        clear hP hph g0 HP HF hvat hsps hc1
        generalize Pm.transR m b (j : Int) = R at *
        unfold Pm.mpV at *
        obtain ⟨maps, s, n, vat, sps, me⟩ := m
        simp only [] at *
        go_enter Tryz.func22, Tryz.ntmps22
        go_wp2_with fail
        refine (CQ.out _).mono ?_
        rintro e w2 ⟨rfl, hb2⟩
        have h2 := two_box hb2
        have HB2 := Lib.hid h2.2.2.1
        clear h2 hb2
        go_wp2_with fail
        go_ret2
        rw [HQ.out]
        exact ⟨rfl, HB2.out⟩
      have hP : Pm.phys m b = (m.start + b, 0) := by rw [hph, if_neg g0]
      rw [hP] at CQ HQ
      have HQ2 := Lib.hid (HQ.out.trans (if_neg (by simp)))
      obtain ⟨i, rfl⟩ := Int.eq_ofNat_of_zero_le (show 0 ≤ b by omega)
      have hi1 : (i : Int) ≤ 1099511627776 := by omega
      have HSP := Lib.hid HF.out.sp
      have HHit := Lib.hid (fun q (hq : q < m.spares.length) h hx => Pm.spare_hit (l := m.spares) (j := q) (b := i) (d := m.start + i) hq h hx)
      have HMiss := Lib.hid (fun h => Pm.spare_miss (l := m.spares) (b := i) (d := m.start + i) h)
      generalize Pm.transR m (i : Int) (j : Int) = R at *
      clear hP hph g0 HQ HF hc1
      generalize Pm.spare m.spares i (m.start + i) = R' at *
      have HA := Lib.hid HP.out.spares
      unfold Pm.mpV at *
      obtain ⟨maps, s, n, vat, sps, me⟩ := m
      simp only [] at *
      clear HP
      generalize s + (i : Int) = sj at *
      go_enter Tryz.func22, Tryz.ntmps22
      go_wp2_with fail
      refine (CQ.out _).mono ?_
      rintro e w2 ⟨rfl, hb2⟩
      have h2 := two_box hb2
      have x4 := h2.1 4 _ rfl
      have a0 := h2.2.1 0 _ rfl
      have HB2 := Lib.hid h2.2.2.1
      have hs2 := h2.2.2.2
      clear h2 hb2
      go_wp2_with fail
      go_loopw [12] (fun iv wr => ∃ q : Nat, q ≤ sps.length ∧ iv = .int .i64 q ∧ Hid (∀ k, k < q → ¬ (sps.getD k (0, 0)).1 = (i : Int) - (i : Int) % 8) ∧ Below w2.heap.size w2 wr) (fun iv _ => sps.length - (intOf iv).toNat)
      case atStart => exact ⟨0, by omega, rfl, Lib.hid (fun k hk => by omega), Below.refl _ _⟩
      case round =>
        obtain ⟨q, hq, rfl, HN, hbr⟩ := hrel
        have HBN := Lib.hid (HB2.out.trans (hbr.mono HB2.out.size))
        have x4' := (hbr.cell (p := ⟨w.heap.size, 4, none⟩) (by simp; omega)).trans x4
        have a0' := (hbr.cell (p := ⟨w.heap.size + 1, 0, none⟩) (by simp; omega)).trans a0
        have HBR := Lib.hid hbr
        clear hbr
        by_cases hlt : q < sps.length
        · obtain ⟨A', c', hv', _, _, hcells⟩ := HA.out
          obtain ⟨gs, os, rfl, hbs, hcs⟩ := hcells (by omega)
          obtain ⟨rfl, _, rfl⟩ : A2 = some ⟨gs, os, none⟩ ∧ sps.length = sps.length ∧ c2 = c' := by simpa using hv'
          clear hv'
          have q0 := (HBN.out.cell (p := ⟨gs, os + q * 2, none⟩) hbs).trans (hcs q hlt 0 _ rfl)
          have q1 := (HBN.out.cell (p := ⟨gs, os + q * 2 + 1, none⟩) hbs).trans (hcs q hlt 1 _ rfl)
          have hx := HSP.out (sps.getD q (0, 0)) (by simp [List.getD, hlt])
          have H1 := Lib.hid (HHit.out q hlt HN.out)
          have H2 := Lib.hid (show ¬ (sps.getD q (0, 0)).1 = (i : Int) - (i : Int) % 8 → ∀ k, k < q + 1 → ¬ (sps.getD k (0, 0)).1 = (i : Int) - (i : Int) % 8 from fun h k hk => by
            by_cases hkq : k = q
            · subst hkq; exact h
            · exact HN.out k (by omega))
          clear hcs
          generalize sps.getD q (0, 0) = x at *
          obtain ⟨x1, x2⟩ := x
          simp only [] at *
          have hq0 : (0 : Int) ≤ (q : Int) := by omega
          have hq1 : (q : Int) < (sps.length : Int) := by omega
          have htm : ((i : Int)).tmod 8 = (i : Int) % 8 := Int.tmod_eq_emod_of_nonneg (by omega)
          have htd : ((i : Int)).tdiv 8 = (i : Int) / 8 := Int.tdiv_eq_ediv_of_nonneg (by omega)
          have hmul : (i : Int) / 8 * 8 = (i : Int) - (i : Int) % 8 := by omega
          by_cases hqq : x1 = (i : Int) - (i : Int) % 8
          · have HR := Lib.hid (H1.out hqq)
            have dq : (x1 == (i : Int) / 8 * 8) = true := by rw [hmul, hqq]; exact beq_self_eq_true _
            have hw1 : IntKind.i64.wrap ((i : Int) / 8 * 8) = (i : Int) / 8 * 8 := IntWalk.i64_in _ (by omega)
            have hw2 : IntKind.i64.wrap (x2 + (i : Int) % 8) = x2 + (i : Int) % 8 := IntWalk.i64_in _ (by omega)
            clear H1 H2 hmul hqq
            go_wp2_with fail
            go_quiet (fail)
            go_wp2_with fail
            go_quiet (fail)
            go_wp2_with fail
            go_ret2
            rw [HQ2.out, HR.out]
            refine ⟨?_, Kit.Below.drewN (Kit.Below.drewN HBN.out _) _⟩
            go_num
          · have HR := Lib.hid (H2.out hqq)
            have dq : (x1 == (i : Int) / 8 * 8) = false := by rw [beq_eq_false_iff_ne, hmul]; exact hqq
            have hw1 : IntKind.i64.wrap ((i : Int) / 8 * 8) = (i : Int) / 8 * 8 := IntWalk.i64_in _ (by omega)
            clear H1 H2 hmul hqq
            go_wp2_with fail
            go_quiet (fail)
            go_wp2_with fail
            go_roundw
            case rel => exact ⟨q + 1, by omega, by go_num, HR, Kit.Below.drewN HBR.out _⟩
            case measure => simp [intOf]; omega
        · obtain rfl : q = sps.length := by omega
          have HR := Lib.hid (HMiss.out HN.out)
          go_wp2_with fail
          go_ret2
          rw [HQ2.out, HR.out]
          exact ⟨rfl, HBN.out⟩
end Go.Proofs.YtlcdhlfkffkifaaGreatDoor

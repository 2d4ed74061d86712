/-
  The walks through the reference's physical and Count.
-/
import Derived.Test.YtlcdhlfkffkifaaGreatDoorZI
import Derived.Test.YtlcdhlfkffkifaaGreatDoorZS
namespace Go.Proofs.YtlcdhlfkffkifaaGreatDoor
open Go.RowKit

set_option maxHeartbeats 3200000 in
set_option maxRecDepth 100000 in
/-- masterdiscref37.physical. -/
theorem rPhysical_any (m : Pm.Mp) (A0 A1 A2 A3 A4 : Option Addr) (n0 n1 n2 n3 n4 c0 c1 c2 c3 c4 : Nat) (b : Int) (w : World) (hm : Pm.MpFew m) :
    Calls Tryz.prog 44 #[Pm.mpV m (.slice A0 n0 c0) (.slice A1 n1 c1) (.slice A2 n2 c2) (.slice A3 n3 c3) (.slice A4 n4 c4), .int .i64 b] w fun e w' => e = .returned (.tuple #[.int .i64 (Pm.phys m b).1, .int .i64 (Pm.phys m b).2]) ∧ Below w.heap.size w w' := by
  have hs0 := hm.s0
  have hs1 := hm.s1
  have hc1 := hm.c1
  clear hm
  unfold Pm.mpV
  have hP := Lib.hid (show Pm.phys m b = if b < 0 ∨ m.count ≤ b then (0, 2) else (m.start + b, 0) from rfl)
  generalize Pm.phys m b = P at *
  obtain ⟨maps, s, n, vat, sps, me⟩ := m
  simp only [] at *
  by_cases h0 : b < 0
  · have HP := Lib.hid (show P = (0, 2) by rw [hP.out, if_pos (Or.inl h0)])
    clear hP
    have d0 : decide (b < 0) = true := decide_eq_true h0
    go_enter Tryz.func44, Tryz.ntmps44
    go_wp2_with fail
    go_ret2
    rw [HP.out]
    exact ⟨rfl, (Below.refl _ _).alloc (Nat.le_refl _) _⟩
  · have d0 : decide (b < 0) = false := decide_eq_false h0
    by_cases h1 : n ≤ b
    · have HP := Lib.hid (show P = (0, 2) by rw [hP.out, if_pos (Or.inr h1)])
      clear hP
      have d1 : decide (n ≤ b) = true := decide_eq_true h1
      go_enter Tryz.func44, Tryz.ntmps44
      go_wp2_with fail
      go_ret2
      rw [HP.out]
      exact ⟨rfl, (Below.refl _ _).alloc (Nat.le_refl _) _⟩
    · have HP := Lib.hid (show P = (s + b, 0) by rw [hP.out, if_neg (by omega)])
      clear hP
      have d1 : decide (n ≤ b) = false := decide_eq_false h1
      go_enter Tryz.func44, Tryz.ntmps44
      go_wp2_with fail
      go_ret2
      rw [HP.out]
      refine ⟨?_, (Below.refl _ _).alloc (Nat.le_refl _) _⟩
      go_num

set_option maxHeartbeats 1600000 in
set_option maxRecDepth 100000 in
/-- masterdiscref33.Count. -/
theorem count_any (n : Int) (h0 : 0 ≤ n) (h1 : n ≤ 9223372036854770000) (w : World) :
    Calls Tryz.prog 24 #[.int .i64 n] w fun e w' => e = .returned (.int .i64 (Pm.cnt n)) ∧ w = w' := by
  obtain ⟨k, rfl⟩ := Int.eq_ofNat_of_zero_le h0
  have hq : Pm.cnt (k : Int) = (((k + 2047) / 2048 : Nat) : Int) := by unfold Pm.cnt; omega
  rw [hq]
  go_enter Tryz.func24, Tryz.ntmps24
  go_wp2_with fail
  go_ret
  refine ⟨congrArg (fun z => Ending.returned (.int .i64 z)) ?_, rfl⟩
  go_num
end Go.Proofs.YtlcdhlfkffkifaaGreatDoor

/-
  The walks through masterdiscref33.Formed and Length.
-/
namespace Go.Proofs.YtlcdhlfkffkifaaGreatDoor
open Go.RowKit

set_option maxHeartbeats 6400000 in
set_option maxRecDepth 100000 in
/-- masterdiscref33.Formed. -/
theorem rFormed_any (v : Value) (l : List Pm.X) (w : World) (hm : Pm.ExtsAt w v l) :
    Calls Tryz.prog 47 #[v] w fun e w' => e = .returned (.bool (Pm.formed l)) ∧ Below w.heap.size w w' := by
  have HM := Lib.hid hm
  obtain ⟨A, c, rfl, hlc, hcm, hcells⟩ := hm.row
  have HCE := Lib.hid hcells
  clear hcells hm
  unfold maxLen at hcm
  go_enter Tryz.func47, Tryz.ntmps47
  go_wp2_with fail
  go_loopw [3] (fun iv wr => ∃ j : Nat, j ≤ l.length ∧ iv = .int .i64 j ∧ (l.take j).all Pm.formed1 = true ∧ Below w.heap.size w wr) (fun iv _ => l.length - (intOf iv).toNat)
  case atStart => exact ⟨0, by omega, rfl, rfl, Below.refl _ _⟩
  case round =>
    obtain ⟨j, hj, rfl, hall, hbw⟩ := hrel
    by_cases hlt : j < l.length
    · obtain ⟨bl, o, rfl, hbl, hc⟩ := HCE.out (by omega)
      obtain ⟨c0, c1, c2, c3⟩ := Pm.four hbl hbw (hc j hlt)
      have hiff := Pm.formed1_iff (l.getD j Pm.x0)
      have HYES := Lib.hid (fun h => all_snocX hlt hall h)
      have HNO := Lib.hid (fun h => all_failX (p := Pm.formed1) hlt h)
      have HBW := Lib.hid hbw
      have HBS := Lib.hid hbw.size
      clear hc hall hbw
      generalize hq : l.getD j Pm.x0 = x at *
      clear hq
      generalize hV : Pm.formed1 x = V at *
      obtain ⟨k, n, b, p⟩ := x
      simp only [] at *
      clear hV
      have hcs : (0 ≤ k ∧ k ≤ 3 ∧ 1 ≤ n ∧ n < 1073741824 ∧ 0 ≤ b ∧ b < 4294967296 ∧ 0 ≤ p ∧ p ≤ 65535) ∨ (k < 0) ∨ (0 ≤ k ∧ 3 < k) ∨ (0 ≤ k ∧ k ≤ 3 ∧ n < 1) ∨ (0 ≤ k ∧ k ≤ 3 ∧ 1 ≤ n ∧ 1073741824 ≤ n) ∨
          (0 ≤ k ∧ k ≤ 3 ∧ 1 ≤ n ∧ n < 1073741824 ∧ b < 0) ∨ (0 ≤ k ∧ k ≤ 3 ∧ 1 ≤ n ∧ n < 1073741824 ∧ 0 ≤ b ∧ 4294967296 ≤ b) ∨ (0 ≤ k ∧ k ≤ 3 ∧ 1 ≤ n ∧ n < 1073741824 ∧ 0 ≤ b ∧ b < 4294967296 ∧ p < 0) ∨
          (0 ≤ k ∧ k ≤ 3 ∧ 1 ≤ n ∧ n < 1073741824 ∧ 0 ≤ b ∧ b < 4294967296 ∧ 0 ≤ p ∧ 65535 < p) := by omega
      rcases hcs with h | h | h | h | h | h | h | h | h
      · have HV := Lib.hid (HYES.out (hiff.2 h))
        clear hiff HYES HNO
        obtain ⟨h1, h2, h3, h4, h5, h6, h7, h8⟩ := h
        have d1 : decide (k < 0) = false := decide_eq_false (by omega)
        have d2 : decide (3 < k) = false := decide_eq_false (by omega)
        have d3 : decide (n < 1) = false := decide_eq_false (by omega)
        have d4 : decide (1073741824 ≤ n) = false := decide_eq_false (by omega)
        have d5 : decide (b < 0) = false := decide_eq_false (by omega)
        have d6 : decide (4294967296 ≤ b) = false := decide_eq_false (by omega)
        have d7 : decide (p < 0) = false := decide_eq_false (by omega)
        have d8 : decide (65535 < p) = false := decide_eq_false (by omega)
        clear h1 h2 h3 h4 h5 h6 h7 h8
        go_wp2_with fail
        go_roundw
        case rel => exact ⟨j + 1, by omega, by go_num, HV.out, HBW.out.alloc HBS.out _⟩
        case measure => simp [intOf]; omega
      all_goals
        have HV := Lib.hid (show Pm.formed l = false by
          unfold Pm.formed
          rw [HNO.out (by rw [Bool.eq_false_iff]; intro hv; have := hiff.1 hv; omega)]
          simp)
        clear hiff HYES HNO
        try have d1 : decide (k < 0) = false := decide_eq_false (by omega)
        try have d1' : decide (k < 0) = true := decide_eq_true (by omega)
        try have d2 : decide (3 < k) = false := decide_eq_false (by omega)
        try have d2' : decide (3 < k) = true := decide_eq_true (by omega)
        try have d3 : decide (n < 1) = false := decide_eq_false (by omega)
        try have d3' : decide (n < 1) = true := decide_eq_true (by omega)
        try have d4 : decide (1073741824 ≤ n) = false := decide_eq_false (by omega)
        try have d4' : decide (1073741824 ≤ n) = true := decide_eq_true (by omega)
        try have d5 : decide (b < 0) = false := decide_eq_false (by omega)
        try have d5' : decide (b < 0) = true := decide_eq_true (by omega)
        try have d6 : decide (4294967296 ≤ b) = false := decide_eq_false (by omega)
        try have d6' : decide (4294967296 ≤ b) = true := decide_eq_true (by omega)
        try have d7 : decide (p < 0) = false := decide_eq_false (by omega)
        try have d7' : decide (p < 0) = true := decide_eq_true (by omega)
        try have d8 : decide (65535 < p) = true := decide_eq_true (by omega)
        clear h
        go_wp2_with fail
        go_ret
        rw [HV.out]
        exact ⟨rfl, HBW.out.alloc HBS.out _⟩
    · obtain rfl : j = l.length := by omega
      rw [List.take_length] at hall
      have HR := Lib.hid (show Pm.formed l = decide (l.length ≤ 64) by unfold Pm.formed; rw [hall]; simp)
      clear hall
      by_cases h64 : l.length ≤ 64
      · have d : decide ((l.length : Int) ≤ 64) = true := decide_eq_true (by omega)
        rw [decide_eq_true h64] at HR
        go_wp2_with fail
        go_ret
        rw [HR.out]
        exact ⟨rfl, hbw⟩
      · have d : decide ((l.length : Int) ≤ 64) = false := decide_eq_false (by omega)
        rw [decide_eq_false h64] at HR
        go_wp2_with fail
        go_ret
        rw [HR.out]
        exact ⟨rfl, hbw⟩

set_option maxHeartbeats 3200000 in
set_option maxRecDepth 100000 in
/-- masterdiscref33.Length. -/
theorem rLength_any (v : Value) (l : List Pm.X) (w : World) (hm : Pm.ExtsAt w v l) :
    Calls Tryz.prog 67 #[v] w fun e w' => e = .returned (.int .i64 (Pm.lenX l)) ∧ Below w.heap.size w w' := by
  have CA := Lib.hid (fun W h => rFormed_any v l W h)
  have HM := Lib.hid hm
  obtain ⟨A, c, rfl, hlc, hcm, hcells⟩ := hm.row
  have HCE := Lib.hid hcells
  clear hcells hm
  unfold maxLen at hcm
  cases ha : Pm.formed l with
  | false =>
    have HR := Lib.hid (show Pm.lenX l = 0 by unfold Pm.lenX; rw [ha]; rfl)
    rw [ha] at CA
    clear ha hlc hcm
    go_enter Tryz.func67, Tryz.ntmps67
    go_wp2_with fail
    with_reducible refine (CA.out _ HM.out).mono ?_
    rintro e w2 ⟨rfl, hb2⟩
    go_wp2_with fail
    go_ret
    rw [HR.out]
    exact ⟨rfl, hb2⟩
  | true =>
    have HR := Lib.hid (show Pm.lenX l = Pm.lenS l by unfold Pm.lenX; rw [ha]; rfl)
    rw [ha] at CA
    unfold Pm.formed at ha
    rw [Bool.and_eq_true, decide_eq_true_eq] at ha
    obtain ⟨hl64, hall⟩ := ha
    have HALL := Lib.hid hall
    clear hall
    go_enter Tryz.func67, Tryz.ntmps67
    go_wp2_with fail
    with_reducible refine (CA.out _ HM.out).mono ?_
    rintro e w2 ⟨rfl, hb2⟩
    have HB2 := Lib.hid hb2
    clear hb2
    go_wp2_with fail
    go_loop [3, 4] (fun nv iv => ∃ j : Nat, j ≤ l.length ∧ iv = .int .i64 j ∧ nv = .int .i64 (Pm.lenS (l.take j))) (fun _ iv => l.length - (intOf iv).toNat)
    case atStart => exact ⟨0, by omega, rfl, rfl⟩
    case round =>
      obtain ⟨j, hj, rfl, rfl⟩ := hrel
      by_cases hlt : j < l.length
      · obtain ⟨b, o, rfl, hbl, hc⟩ := HCE.out (by omega)
        obtain ⟨c0, c1, c2, c3⟩ := Pm.four hbl HB2.out (hc j hlt)
        have hx := (Pm.formed1_iff _).1 (Pm.all_get HALL.out hlt)
        have hs := Pm.lenS_bd (Pm.all_take HALL.out j)
        have hsn := Pm.lenS_snoc hlt
        have hjl : (l.take j).length ≤ 64 := by rw [List.length_take]; omega
        have HSN := Lib.hid hsn
        clear hsn hc c0 c2 c3
        have hs2 : Pm.lenS (l.take j) ≤ 1073741823 * 64 := by omega
        obtain ⟨hs1, _⟩ := hs
        generalize Pm.lenS (l.take j) = q at *
        generalize l.getD j Pm.x0 = x at *
        obtain ⟨k, n, bb, pp⟩ := x
        simp only [] at *
        obtain ⟨_, _, x3, x4, _, _, _, _⟩ := hx
        clear hjl
        go_wp2_with fail
        go_round
        case rel => exact ⟨j + 1, by omega, by go_num, by rw [HSN.out]⟩
        case measure => simp [intOf]; omega
      · obtain rfl : j = l.length := by omega
        rw [List.take_length]
        go_wp2_with fail
        go_ret
        rw [HR.out]
        exact ⟨rfl, HB2.out⟩
end Go.Proofs.YtlcdhlfkffkifaaGreatDoor

/-
  The walk through masterdiscref33.Valid.
-/
namespace Go.Proofs.YtlcdhlfkffkifaaGreatDoor
open Go.RowKit

set_option maxHeartbeats 6400000 in
set_option maxRecDepth 100000 in
/-- masterdiscref33.Valid. -/
theorem rValidX_any (v : Value) (l : List Pm.X) (w : World) (hm : Pm.ExtsAt w v l) :
    Calls Tryz.prog 66 #[v] w fun e w' => e = .returned (.bool (Pm.validX l)) ∧ Below w.heap.size w w' := by
  have CA := Lib.hid (fun W h => rFormed_any v l W h)
  have CL := Lib.hid (fun W h => rLength_any v l W h)
  have HM := Lib.hid hm
  obtain ⟨A, c, rfl, hlc, hcm, hcells⟩ := hm.row
  have HCE := Lib.hid hcells
  clear hcells hm
  unfold maxLen at hcm
  cases ha : Pm.formed l with
  | false =>
    have HR := Lib.hid (show Pm.validX l = false by unfold Pm.validX; rw [ha]; rfl)
    rw [ha] at CA
    clear ha hlc hcm
    go_enter Tryz.func66, Tryz.ntmps66
    go_wp2_with fail
    with_reducible refine (CA.out _ HM.out).mono ?_
    rintro e w2 ⟨rfl, hb2⟩
    go_wp2_with fail
    go_ret
    rw [HR.out]
    exact ⟨rfl, hb2⟩
  | true =>
  have hlx : Pm.lenX l = Pm.lenS l := by unfold Pm.lenX; rw [ha]; rfl
  have hRR : Pm.validX l = (decide (Pm.lenS l ≤ 1073739776) && Pm.okX l) := by unfold Pm.validX; rw [ha]; simp
  rw [ha] at CA
  rw [hlx] at CL
  unfold Pm.formed at ha
  rw [Bool.and_eq_true, decide_eq_true_eq] at ha
  obtain ⟨hl64, hall⟩ := ha
  have hbd := Pm.lenS_bd hall
  have HALL := Lib.hid hall
  clear hall hlx
  by_cases hlen : Pm.lenS l ≤ 1073739776
  case neg =>
    have HR := Lib.hid (show Pm.validX l = false by rw [hRR, decide_eq_false hlen]; rfl)
    have d1 : decide (1073739776 < Pm.lenS l) = true := decide_eq_true (by omega)
    have d1' : 1073739776 < Pm.lenS l := by omega
    clear hRR hlen
    generalize Pm.lenS l = q at *
    go_enter Tryz.func66, Tryz.ntmps66
    go_wp2_with fail
    with_reducible refine (CA.out _ HM.out).mono ?_
    rintro e w2 ⟨rfl, hb2⟩
    go_wp2_with fail
    with_reducible refine (CL.out _ (HM.out.below hb2)).mono ?_
    rintro e w3 ⟨rfl, hb3⟩
    go_wp2_with fail
    go_ret
    rw [HR.out]
    exact ⟨rfl, hb2.trans (hb3.mono hb2.size)⟩
  case pos =>
  have HRR := Lib.hid (show Pm.validX l = Pm.okX l by rw [hRR, decide_eq_true hlen]; rfl)
  have d1 : decide (1073739776 < Pm.lenS l) = false := decide_eq_false (by omega)
  have d1' : ¬ 1073739776 < Pm.lenS l := by omega
  clear hRR hbd
  generalize Pm.lenS l = q at *
  go_enter Tryz.func66, Tryz.ntmps66
  go_wp2_with fail
  with_reducible refine (CA.out _ HM.out).mono ?_
  rintro e w2 ⟨rfl, hb2⟩
  go_wp2_with fail
  with_reducible refine (CL.out _ (HM.out.below hb2)).mono ?_
  rintro e w3 ⟨rfl, hb3⟩
  have hb23 := hb2.trans (hb3.mono hb2.size)
  clear hb2 hb3 CA CL hlen
  go_wp2_with fail
  clear d1 d1'
  go_loopw [3, 4] (fun iv _ wr => ∃ j : Nat, j ≤ l.length ∧ iv = .int .i64 j ∧ Hid (∀ i, i < j → Pm.okAt l i = true) ∧ Below w.heap.size w wr) (fun iv _ _ => l.length - (intOf iv).toNat)
  case atStart => exact ⟨0, by omega, rfl, Lib.hid (fun i hi => by omega), hb23⟩
  case round =>
    obtain ⟨j, hj, rfl, HA, hbw⟩ := hrel
    by_cases hlt : j < l.length
    · obtain ⟨b, o, rfl, hbl, hc⟩ := HCE.out (by omega)
      obtain ⟨c0, c1, c2, c3⟩ := Pm.four hbl hbw (hc j hlt)
      have hx := (Pm.formed1_iff _).1 (Pm.all_get HALL.out hlt)
      have hok : Pm.okAt l j = (!decide ((l.getD j Pm.x0).kind = 3) && (decide (j + 1 = l.length) || decide ((l.getD j Pm.x0).length % 2048 = 0)) && decide ((l.getD j Pm.x0).block + Pm.cnt (l.getD j Pm.x0).length ≤ 4294967296)) := rfl
      have hyes : Pm.okAt l j = true → ∀ i, i < j + 1 → Pm.okAt l i = true := fun h i hi => by
        by_cases hij : i = j
        · subst hij; exact h
        · exact HA.out i (by omega)
      have hno : Pm.okAt l j = false → Pm.validX l = false := fun h => by
        rw [HRR.out, Bool.eq_false_iff]
        intro h2
        have := List.all_eq_true.1 h2 j (by simpa using hlt)
        rw [h] at this
        cases this
      clear hc
      generalize Pm.okAt l j = ok at *
      generalize l.getD j Pm.x0 = x at *
      obtain ⟨k, n, bb, pp⟩ := x
      simp only [] at *
      obtain ⟨x1, x2, x3, x4, x5, x6, _, _⟩ := hx
      have CB := Lib.hid (fun W => count_any n (by omega) (by omega) W)
      have hcb := Pm.cnt_bd (n := n) (by omega)
      have hn0 : n % 2048 = n.tmod 2048 := by rw [Int.tmod_eq_emod_of_nonneg (by omega)]
      clear hn0
      generalize hcn : Pm.cnt n = cn at *
      clear hcn
      obtain ⟨hcb1, hcb2⟩ := hcb
      have hlen : (l.length : Int) ≤ 64 := by omega
      have hlt' : (j : Int) < (l.length : Int) := by omega
      by_cases g1 : k = 3
      · have HV := Lib.hid (hno (by rw [hok, decide_eq_true g1]; rfl))
        clear hok hyes hno
        subst g1
        go_wp2_with fail
        go_quiet ((go_at_call 24; exact Calls.quiet_of_same ((CB.out _).mono fun _ _ h => ⟨h.1, h.2.symm⟩)))
        go_wp2_with fail
        go_ret
        rw [HV.out]
        exact ⟨rfl, Kit.Below.drewN (hbw.alloc hbw.size _) nq⟩
      have e1 : (k == 3) = false := by rw [beq_eq_false_iff_ne]; exact g1
      by_cases g2 : j + 1 = l.length
      · have d2 : decide ((j : Int) + 1 < (l.length : Int)) = false := decide_eq_false (by omega)
        have d2' : ¬ ((j : Int) + 1 < (l.length : Int)) := by omega
        by_cases g4 : bb + cn ≤ 4294967296
        · have HN := Lib.hid (hyes (by rw [hok, decide_eq_false g1, decide_eq_true g2, decide_eq_true g4]; rfl))
          have d4 : decide (4294967296 < bb + cn) = false := decide_eq_false (by omega)
          have d4' : ¬ 4294967296 < bb + cn := by omega
          clear hok hyes hno g1 g4
          go_wp2_with fail
          go_quiet ((go_at_call 24; exact Calls.quiet_of_same ((CB.out _).mono fun _ _ h => ⟨h.1, h.2.symm⟩)))
          go_wp2_with fail
          go_roundw
          case rel => exact ⟨j + 1, by omega, by go_num, HN, Kit.Below.drewN (hbw.alloc hbw.size _) nq⟩
          case measure => simp [intOf]; omega
        · have HV := Lib.hid (hno (by rw [hok, decide_eq_false g1, decide_eq_true g2, decide_eq_false g4]; rfl))
          have d4 : decide (4294967296 < bb + cn) = true := decide_eq_true (by omega)
          have d4' : 4294967296 < bb + cn := by omega
          clear hok hyes hno g1 g4
          go_wp2_with fail
          go_quiet ((go_at_call 24; exact Calls.quiet_of_same ((CB.out _).mono fun _ _ h => ⟨h.1, h.2.symm⟩)))
          go_wp2_with fail
          go_ret
          rw [HV.out]
          exact ⟨rfl, Kit.Below.drewN (hbw.alloc hbw.size _) nq⟩
      · have d2 : decide ((j : Int) + 1 < (l.length : Int)) = true := decide_eq_true (by omega)
        have d2' : (j : Int) + 1 < (l.length : Int) := by omega
        by_cases g3 : n % 2048 = 0
        · have e3 : (n % 2048 != 0) = false := by rw [g3]; rfl
          by_cases g4 : bb + cn ≤ 4294967296
          · have HN := Lib.hid (hyes (by rw [hok, decide_eq_false g1, decide_eq_false g2, decide_eq_true g3, decide_eq_true g4]; rfl))
            have d4 : decide (4294967296 < bb + cn) = false := decide_eq_false (by omega)
            have d4' : ¬ 4294967296 < bb + cn := by omega
            clear hok hyes hno g1 g4 g3 g2
            go_wp2_with fail
            go_quiet ((go_at_call 24; exact Calls.quiet_of_same ((CB.out _).mono fun _ _ h => ⟨h.1, h.2.symm⟩)))
            go_wp2_with fail
            go_roundw
            case rel => exact ⟨j + 1, by omega, by go_num, HN, Kit.Below.drewN (hbw.alloc hbw.size _) nq⟩
            case measure => simp [intOf]; omega
          · have HV := Lib.hid (hno (by rw [hok, decide_eq_false g1, decide_eq_false g2, decide_eq_true g3, decide_eq_false g4]; rfl))
            have d4 : decide (4294967296 < bb + cn) = true := decide_eq_true (by omega)
            have d4' : 4294967296 < bb + cn := by omega
            clear hok hyes hno g1 g4 g3 g2
            go_wp2_with fail
            go_quiet ((go_at_call 24; exact Calls.quiet_of_same ((CB.out _).mono fun _ _ h => ⟨h.1, h.2.symm⟩)))
            go_wp2_with fail
            go_ret
            rw [HV.out]
            exact ⟨rfl, Kit.Below.drewN (hbw.alloc hbw.size _) nq⟩
        · have HV := Lib.hid (hno (by rw [hok, decide_eq_false g1, decide_eq_false g2, decide_eq_false g3]; rfl))
          have e3 : (n % 2048 != 0) = true := by rw [bne_iff_ne]; exact g3
          clear hok hyes hno g1 g3 g2
          go_wp2_with fail
          go_quiet ((go_at_call 24; exact Calls.quiet_of_same ((CB.out _).mono fun _ _ h => ⟨h.1, h.2.symm⟩)))
          go_wp2_with fail
          go_ret
          rw [HV.out]
          exact ⟨rfl, Kit.Below.drewN (hbw.alloc hbw.size _) nq⟩
    · obtain rfl : j = l.length := by omega
      have HV := Lib.hid (show Pm.validX l = true by rw [HRR.out]; exact List.all_eq_true.2 fun i hi => HA.out i (by simpa using hi))
      go_wp2_with fail
      go_ret
      rw [HV.out]
      exact ⟨rfl, hbw⟩
end Go.Proofs.YtlcdhlfkffkifaaGreatDoor

/-
  The walk through masterdiscref33.Locate.
-/
namespace Go.Proofs.YtlcdhlfkffkifaaGreatDoor
open Go.RowKit
attribute [local go_sem ↓] Go.wp_at_zero Go.wp_at_succ

/-- What the reference's Locate's results are read as. -/
theorem rloc_results (tmps : Array Value) (W : World) (g : Nat) (c0 c1 y z : Value) (h4 : tmps.getD 4 undef = .pointer (some ⟨g, 0, none⟩)) (h5 : tmps.getD 5 undef = y) (h6 : tmps.getD 6 undef = z)
    (hc0 : W.cell? ⟨g, 0, none⟩ = some c0) (hc1 : W.cell? ⟨g, 1, none⟩ = some c1) : (results Tryz.f45 tmps).run Tryz.prog W = .ok (.tuple #[.agg #[c0, c1], y, z]) W := by
  have hl : (loadCells ⟨g, 0, none⟩ 2).run Tryz.prog W = .ok #[c0, c1] W := run_loadCells_list (P := Tryz.prog) W ⟨g, 0, none⟩ [c0, c1] (fun j v hv => by
    rw [Addr.add_lit, Nat.zero_add]
    match j, hv with
    | 0, hv => simp at hv; subst hv; exact hc0
    | 1, hv => simp at hv; subst hv; exact hc1
    | (j + 2), hv => simp at hv)
  have ha : ∀ w : World, (isAgg 43).run Tryz.prog w = .ok true w := fun _ => by kernel_rfl
  have hs : ∀ w : World, (sizeOf 43).run Tryz.prog w = .ok 2 w := fun _ => by kernel_rfl
  have hv : (loadVar 43 ⟨g, 0, none⟩).run Tryz.prog W = .ok (.agg #[c0, c1]) W := by
    simp [loadVar, ha, hs, hl]
  rw [Array.getD_eq_getD_getElem?] at h4 h5 h6
  simp [results, h4, h5, h6, hv, asAddr]

set_option maxHeartbeats 12800000 in
set_option maxRecDepth 100000 in
/-- masterdiscref33.Locate. -/
theorem rLocate_any (v : Value) (l : List Pm.X) (b : Int) (w : World) (hm : Pm.ExtsAt w v l) (_hb0 : -9223372036854775808 ≤ b) (hb1 : b ≤ 9223372036854775807) :
    Calls Tryz.prog 45 #[v, .int .i64 b] w fun e w' => e = .returned (locV (Pm.locX l b)) ∧ Below w.heap.size w w' := by
  have CV := Lib.hid (fun W h => rValidX_any v l W h)
  have CL := Lib.hid (fun W h => rLength_any v l W h)
  have HM := Lib.hid hm
  have HD0 := Lib.hid (LcAt.start w)
  have HM0 := Lib.hid (hm.below ((Below.refl _ w).alloc (Nat.le_refl _) (.cells #[.int .i64 0, .int .i64 0] 43)))
  obtain ⟨A, c, rfl, hlc, hcm, hcells⟩ := hm.row
  have HCE := Lib.hid hcells
  clear hcells hm
  unfold maxLen at hcm
  cases ha : Pm.validX l with
  | false =>
    have HR := Lib.hid (show Pm.locX l b = ((0, 0), 0, 1) by unfold Pm.locX; rw [ha]; rfl)
    rw [ha] at CV
    clear ha hlc hcm CL
    go_enter Tryz.func45, Tryz.ntmps45
    go_wp2_with fail
    refine (CV.out _ HM0.out).mono ?_
    rintro e w2 ⟨rfl, hb2⟩
    have hD := HD0.out.later hb2
    have r0 := hD.r0
    have r1 := hD.r1
    have f0 := hD.free 0
    have f1 := hD.free 1
    have HD := Lib.hid hD
    clear hD hb2
    go_wp2_with fail
    have hf := lc_fin w _ HD.out (.int .i64 0) (.int .i64 0)
    exact bodyPost_ret (rloc_results _ _ w.heap.size (.int .i64 0) (.int .i64 0) (.int .i64 0) (.int .i64 1) rfl rfl rfl hf.1 hf.2.1) rfl ⟨by rw [HR.out]; rfl, hf.2.2⟩
  | true =>
  have HR := Lib.hid (show Pm.locX l b = Pm.locS l b by unfold Pm.locX; rw [ha]; rfl)
  rw [ha] at CV
  unfold Pm.validX at ha
  rw [Bool.and_eq_true, Bool.and_eq_true] at ha
  have hfm := ha.1.1
  have hlx : Pm.lenX l = Pm.lenS l := by unfold Pm.lenX; rw [hfm]; rfl
  have hcs := Pm.cnt_lenS ha.2
  have hle : Pm.lenS l ≤ 1073739776 := of_decide_eq_true ha.1.2
  unfold Pm.formed at hfm
  rw [Bool.and_eq_true, decide_eq_true_eq] at hfm
  obtain ⟨hl64, hall⟩ := hfm
  have hlb := Pm.lenS_bd hall
  have CN := Lib.hid (fun W => count_any (Pm.lenS l) (by omega) (by omega) W)
  rw [hlx] at CL
  rw [hcs] at CN
  have hcb := Pm.cntS_bd hall
  have HALL := Lib.hid hall
  clear ha hall hlx hlb hcs hle
  generalize Pm.lenS l = q at *
  by_cases hneg : b < 0
  · have HV := Lib.hid (Pm.locS_neg b HALL.out hneg)
    have d0 : decide (b < 0) = true := decide_eq_true hneg
    clear CN CL
    go_enter Tryz.func45, Tryz.ntmps45
    go_wp2_with fail
    refine (CV.out _ HM0.out).mono ?_
    rintro e w2 ⟨rfl, hb2⟩
    have hD := HD0.out.later hb2
    have r0 := hD.r0
    have r1 := hD.r1
    have f0 := hD.free 0
    have f1 := hD.free 1
    have HD := Lib.hid hD
    clear hD hb2
    go_wp2_with fail
    have hf := lc_fin w _ HD.out (.int .i64 0) (.int .i64 0)
    exact bodyPost_ret (rloc_results _ _ w.heap.size (.int .i64 0) (.int .i64 0) (.int .i64 0) (.int .i64 2) rfl rfl rfl hf.1 hf.2.1) rfl ⟨by rw [HR.out, HV.out]; rfl, hf.2.2⟩
  have d0 : decide (b < 0) = false := decide_eq_false hneg
  by_cases hbig : Pm.cntS l ≤ b
  · have HV := Lib.hid (Pm.locS_out b HALL.out hbig)
    have d1 : decide (Pm.cntS l ≤ b) = true := decide_eq_true hbig
    generalize Pm.cntS l = cq at *
    go_enter Tryz.func45, Tryz.ntmps45
    go_wp2_with fail
    refine (CV.out _ HM0.out).mono ?_
    rintro e w2 ⟨rfl, hb2⟩
    have HD2 := Lib.hid (HD0.out.later hb2)
    have HM2 := Lib.hid (HM0.out.below hb2)
    clear hb2
    go_wp2_with fail
    refine (CL.out _ HM2.out).mono ?_
    rintro e w3 ⟨rfl, hb3⟩
    have hD := HD2.out.later hb3
    have r0 := hD.r0
    have r1 := hD.r1
    have f0 := hD.free 0
    have f1 := hD.free 1
    have HD := Lib.hid hD
    clear hD hb3
    go_wp2_with fail
    refine (CN.out _).mono ?_
    rintro e w4 ⟨rfl, rfl⟩
    go_wp2_with fail
    have hf := lc_fin w _ HD.out (.int .i64 0) (.int .i64 0)
    exact bodyPost_ret (rloc_results _ _ w.heap.size (.int .i64 0) (.int .i64 0) (.int .i64 0) (.int .i64 2) rfl rfl rfl hf.1 hf.2.1) rfl ⟨by rw [HR.out, HV.out]; rfl, hf.2.2⟩
  have d1 : decide (Pm.cntS l ≤ b) = false := decide_eq_false hbig
  have HLT := Lib.hid (show b < Pm.cntS (l.drop 0) by rw [List.drop_zero]; omega)
  have HL0 := Lib.hid (show Pm.locS l b = Pm.locS (l.drop 0) b by rw [List.drop_zero])
  generalize Pm.cntS l = cq at *
  go_enter Tryz.func45, Tryz.ntmps45
  go_wp2_with fail
  refine (CV.out _ HM0.out).mono ?_
  rintro e w2 ⟨rfl, hb2⟩
  have HD2 := Lib.hid (HD0.out.later hb2)
  have HM2 := Lib.hid (HM0.out.below hb2)
  clear hb2
  go_wp2_with fail
  refine (CL.out _ HM2.out).mono ?_
  rintro e w3 ⟨rfl, hb3⟩
  have hD := HD2.out.later hb3
  have r0 := hD.r0
  have r1 := hD.r1
  have f0 := hD.free 0
  have f1 := hD.free 1
  have hold := hD.old
  have HOLD := Lib.hid hold
  have HD := Lib.hid hD
  clear hD hb3 hold
  go_wp2_with fail
  refine (CN.out _).mono ?_
  rintro e w4 ⟨rfl, rfl⟩
  go_wp2_with fail
  go_loop [1, 7] (fun bv iv => ∃ (j : Nat) (z : Int), iv = .int .i64 j ∧ bv = .int .i64 z ∧ 0 ≤ z ∧ z ≤ 9223372036854775807 ∧ j ≤ l.length ∧ Hid (z < Pm.cntS (l.drop j)) ∧ Hid (Pm.locS l b = Pm.locS (l.drop j) z)) (fun _ iv => l.length - (intOf iv).toNat)
  case atStart => exact ⟨0, b, rfl, rfl, by omega, hb1, Nat.zero_le _, HLT, HL0⟩
  case round =>
    obtain ⟨j, z, rfl, rfl, hz0, hz1, hj, HZ, HL⟩ := hrel
    have hlt := Pm.drop_in hj hz0 HZ.out
    obtain ⟨bl, o, rfl, hbl, hc⟩ := HCE.out (by omega)
    obtain ⟨c0, c1, c2, c3⟩ := Pm.four hbl HOLD.out (hc j hlt)
    have hx := (Pm.formed1_iff _).1 (Pm.all_get HALL.out hlt)
    have hcn := Pm.cnt_of (Pm.all_get HALL.out hlt)
    have hdr := Pm.drop_getD hlt
    have HLC := Lib.hid (HL.out.trans (by rw [hdr, Pm.locS_cons]))
    have HZC := Lib.hid (show z < Pm.cnt (l.getD j Pm.x0).length + Pm.cntS (l.drop (j + 1)) by rw [← Pm.cntS_cons, ← hdr]; exact HZ.out)
    clear hc hdr HL HZ
    generalize l.getD j Pm.x0 = x at *
    obtain ⟨k, n, bb, pp⟩ := x
    simp only [] at *
    obtain ⟨x1, x2, x3, x4, x5, x6, x7, x8⟩ := hx
    have CB := Lib.hid (fun W => count_any n (by omega) (by omega) W)
    generalize hcq : Pm.cnt n = cn at *
    clear hcq
    obtain ⟨hc1, hc2⟩ := hcn
    have hi0 : (0 : Int) ≤ (j : Int) := by omega
    have hi1 : (j : Int) < (l.length : Int) := by omega
    have hne : bl ≠ w.heap.size := by omega
    have hne' := hne.symm
    by_cases hin : cn ≤ z
    · have HN := Lib.hid (HLC.out.trans (by rw [if_neg (by omega), if_neg (by omega)]))
      have HZ := Lib.hid (show z - cn < Pm.cntS (l.drop (j + 1)) by have := HZC.out; omega)
      have d : decide (cn ≤ z) = true := decide_eq_true hin
      go_wp2_with fail
      refine (CB.out _).mono ?_
      rintro e w4 ⟨rfl, rfl⟩
      go_wp2_with fail
      refine (CB.out _).mono ?_
      rintro e w4 ⟨rfl, rfl⟩
      go_wp2_with fail
      go_round
      case rel => exact ⟨j + 1, z - cn, by go_num, rfl, by omega, by omega, by omega, HZ, HN⟩
      case measure => simp [intOf]; omega
    · have HV := Lib.hid (HLC.out.trans (if_pos ⟨hz0, by omega⟩))
      have d : decide (cn ≤ z) = false := decide_eq_false hin
      go_wp2_with fail
      refine (CB.out _).mono ?_
      rintro e w4 ⟨rfl, rfl⟩
      go_wp2_with fail
      have hwr : IntKind.i64.wrap (bb + z) = bb + z := IntWalk.i64_in _ (by omega)
      go_region_held3 (fun w' => w'.cell? ⟨bl, o + j * 4, none⟩ = some (.int .i64 k) ∧ w'.cell? ⟨bl, o + j * 4 + 2, none⟩ = some (.int .i64 bb) ∧ w'.cell? ⟨bl, o + j * 4 + 3, none⟩ = some (.int .i64 pp)) (go_keep) (fail)
      all_goals
        go_wp2_with fail
        have hf := lc_fin w _ HD.out (.int .i64 (bb + z)) (.int .i64 pp)
        exact bodyPost_ret (rloc_results _ _ w.heap.size (.int .i64 (bb + z)) (.int .i64 pp) (.int .i64 k) (.int .i64 0) rfl rfl rfl hf.1 hf.2.1) rfl ⟨by rw [HR.out, HV.out]; rfl, hf.2.2.drew⟩
end Go.Proofs.YtlcdhlfkffkifaaGreatDoor

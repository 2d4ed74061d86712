/-
  The walk through datetime.ReadStamp.
-/
import Derived.Test.YthkppbimkjmbnaaGreatDoorZT
import Derived.Lib.EndianBits
namespace Go.Proofs.YthkppbimkjmbnaaGreatDoor
set_option linter.unusedVariables false
open Go.RowKit
open Vs (bs by_)
theorem or_8 (x y : Nat) (hx : x < 256) (hy : y < 256) : bits .or .i64 (x : Int) ((y : Int) * 256) = ((x + 256 * y : Nat) : Int) := by
  rw [bits_join_low .i64 63 (by decide) (fun n h0 h1 => IntWalk.i64_in _ (by omega)) 8 (x : Int) ((y : Int) * 256) (by omega) (by omega) (by omega) (by omega) (by omega) (by omega)]
  omega
theorem and_12 (x : Nat) (hx : x < 65536) : bits .and .i64 (x : Int) 4095 = ((x % 4096 : Nat) : Int) := by
  have h := bits_mask .i64 63 (by decide) (fun n h0 h1 => IntWalk.i64_in _ (by omega)) 12 (by decide) (x : Int) (by omega) (by omega)
  have e : (2 : Int) ^ 12 - 1 = 4095 := by decide
  rw [e] at h
  rw [h]
  have e2 : (2 : Int) ^ 12 = 4096 := by decide
  rw [e2]
  omega
namespace Vs
/-- The last three bytes. -/
def tail3 (s : List UInt8) (i : Nat) : Bool := (decide (i ≤ 0) || decide (Cs.byt s 9 ≤ 99)) && ((decide (i ≤ 1) || decide (Cs.byt s 10 ≤ 99)) && (decide (i ≤ 2) || decide (Cs.byt s 11 ≤ 99)))
theorem tail3_step (s : List UInt8) {i : Nat} (h : i < 3) : tail3 s (i + 1) = (tail3 s i && decide (Cs.byt s (9 + i) ≤ 99)) := by
  have : i = 0 ∨ i = 1 ∨ i = 2 := by omega
  rcases this with rfl | rfl | rfl
  all_goals
    unfold tail3
    simp
  · rw [Bool.and_assoc]
theorem read_d {s : List UInt8} (hl : s.length = 12) {Z : Int} {r : Bool} (h1 : r = true → kindOf s / 4096 ≤ 1 ∧ Z = zoneOf s ∧ -1440 ≤ Z ∧ Z ≤ 1440) (h2 : r = false → rightOf s = false) : readSR s = dreadR (clockOf s) Z (r && tail3 s 3) := by
  have ht : tail3 s 3 = (decide (Cs.byt s 9 ≤ 99) && (decide (Cs.byt s 10 ≤ 99) && decide (Cs.byt s 11 ≤ 99))) := by simp [tail3]
  unfold readSR dreadR
  rw [if_neg (by omega)]
  cases r with
  | false =>
    rw [h2 rfl]
    rfl
  | true =>
    obtain ⟨k1, k2, k3, k4⟩ := h1 rfl
    have hr : rightOf s = tail3 s 3 := by
      unfold rightOf
      rw [← k2, decide_eq_true k1, decide_eq_true k3, decide_eq_true k4, ht]
      rfl
    rw [hr, Bool.true_and, ← k2]
    cases hc : (tail3 s 3 && okC (clockOf s)) with
    | false => rfl
    | true =>
      rw [if_pos rfl, if_pos rfl]
      have hok : okC (clockOf s) = true := (Bool.and_eq_true _ _ ▸ hc : _ ∧ _).2
      have hj : joinR (clockOf s) Z = if isTime (secs (clockOf s) - 60 * Z) = true then (secs (clockOf s) - 60 * Z, 0) else (0, 2) := by
        unfold joinR
        rw [if_pos hok, if_pos (show -1440 ≤ Z ∧ Z ≤ 1440 from And.intro k3 k4)]
      rw [hj]
      by_cases hi : isTime (secs (clockOf s) - 60 * Z) = true
      · rw [if_pos hi, if_pos hi]; rfl
      · rw [if_neg hi, if_neg hi]; rfl
end Vs

set_option maxHeartbeats 12800000 in
set_option maxRecDepth 100000 in
/-- datetime.ReadStamp. -/
theorem readStamp_any (s : ByteArray) (w : World) (hs : s.size ≤ 9223372036854775807) : Calls Tryz.prog 106 #[.string s] w fun e w' => e = .returned (.tuple #[.int .i64 (Vs.readSR (by_ s)).1.1, .int .i64 (Vs.readSR (by_ s)).1.2, .int .i64 (Vs.readSR (by_ s)).2]) ∧ Below w.heap.size w w' := by
  by_cases hl : s.size = 12
  case neg =>
    have HR := Lib.hid (show Vs.readSR (by_ s) = ((0, 0), 1) from if_pos (by rw [Vs.by_len]; exact hl))
    rw [HR.out]
    have hne : ((s.size : Int) != 12) = true := by rw [bne_iff_ne]; omega
    clear hl HR
    go_enter Tryz.func106, Tryz.ntmps106
    go_wp2_with fail
    go_ret3
    exact ⟨rfl, Below.refl _ _⟩
  have g0 := Kit.byt_get s 0 (by omega)
  have g1 := Kit.byt_get s 1 (by omega)
  have g2 := Kit.byt_get s 2 (by omega)
  have g3 := Kit.byt_get s 3 (by omega)
  have g4 := Kit.byt_get s 4 (by omega)
  have g5 := Kit.byt_get s 5 (by omega)
  have g6 := Kit.byt_get s 6 (by omega)
  have g7 := Kit.byt_get s 7 (by omega)
  have g8 := Kit.byt_get s 8 (by omega)
  have l0 := Cs.byt_lt s.data.toList 0
  have l1 := Cs.byt_lt s.data.toList 1
  have l2 := Cs.byt_lt s.data.toList 2
  have l3 := Cs.byt_lt s.data.toList 3
  have o1 := or_8 _ _ l0 l1
  have o2 := or_8 _ _ l2 l3
  have hT : ∀ i, i < 3 → Cs.byt (s.extract 9 s.size).data.toList i = Cs.byt s.data.toList (9 + i) := fun i hi => by
    rw [Vs.bs_ext]
    show Cs.byt (Vs.sl (by_ s) 9 (s.size - 9)) i = _
    unfold Cs.byt Vs.sl
    rw [List.getD_eq_getElem?_getD, List.getElem?_take_of_lt (by omega), List.getElem?_drop, ← List.getD_eq_getElem?_getD]
  have hx12 : s.extract 9 s.size = s.extract 9 12 := by rw [hl]
  rw [hx12] at hT
  have HT := Lib.hid hT
  have hes : (s.extract 9 12).size = 3 := by rw [ByteArray.size_extract]; omega
  clear hx12
  have RD := Lib.hid (fun Z r => Vs.read_d (s := by_ s) (by rw [Vs.by_len]; exact hl) (Z := Z) (r := r))
  have HK := Lib.hid (show Vs.kindOf (by_ s) = ((Cs.byt (by_ s) 0 + 256 * Cs.byt (by_ s) 1 : Nat) : Int) from rfl)
  have HC := Lib.hid (show Vs.cC (Vs.clockOf (by_ s)) = #[.int .i64 ((Cs.byt (by_ s) 2 + 256 * Cs.byt (by_ s) 3 : Nat) : Int), .int .i64 ((Cs.byt (by_ s) 4 : Nat) : Int), .int .i64 ((Cs.byt (by_ s) 5 : Nat) : Int), .int .i64 ((Cs.byt (by_ s) 6 : Nat) : Int), .int .i64 ((Cs.byt (by_ s) 7 : Nat) : Int), .int .i64 ((Cs.byt (by_ s) 8 : Nat) : Int)] from rfl)
  have HST := Lib.hid (fun i h => Vs.tail3_step (by_ s) (i := i) h)
  have hT0 : Vs.tail3 (by_ s) 0 = true := by simp [Vs.tail3]
  have HT0 := Lib.hid hT0
  have CD := Lib.hid (fun Z r W => dread_any (Vs.clockOf (by_ s)) Z r W)
  rw [HC.out] at CD
  have hz : ((s.size : Int) != 12) = false := by rw [hl]; rfl
  change bits .or .i64 ((Cs.byt (by_ s) 0 : Nat) : Int) (((Cs.byt (by_ s) 1 : Nat) : Int) * 256) = _ at o1
  change bits .or .i64 ((Cs.byt (by_ s) 2 : Nat) : Int) (((Cs.byt (by_ s) 3 : Nat) : Int) * 256) = _ at o2
  obtain ⟨K, hKe⟩ : ∃ K : Nat, Cs.byt (by_ s) 0 + 256 * Cs.byt (by_ s) 1 = K := ⟨_, rfl⟩
  have hKl : K < 65536 := by
    have e0 : Cs.byt (by_ s) 0 < 256 := l0
    have e1 : Cs.byt (by_ s) 1 < 256 := l1
    omega
  change Hid (Vs.kindOf (by_ s) = ((Cs.byt (by_ s) 0 + 256 * Cs.byt (by_ s) 1 : Nat) : Int)) at HK
  rw [show Cs.byt s.data.toList 0 + 256 * Cs.byt s.data.toList 1 = K from hKe] at o1
  rw [hKe] at HK
  obtain ⟨q, r, hqr, hr4⟩ : ∃ q r : Nat, K = 4096 * q + r ∧ r < 4096 := ⟨K / 4096, K % 4096, by omega, by omega⟩
  have a1 : bits .and .i64 (K : Int) 4095 = (r : Int) := by rw [and_12 K hKl]; congr 1; omega
  have a2 : (K : Int) / 4096 = (q : Int) := by omega
  have HQR := Lib.hid hqr
  have path : ∃ (Z : Int) (R0 : Bool), (R0 = true → q ≤ 1 ∧ -1440 ≤ Z ∧ Z ≤ 1440 ∧ Z = Vs.zoneOf (by_ s)) ∧ (R0 = false → Vs.rightOf (by_ s) = false) ∧
      ((q = 0 ∧ r < 2048 ∧ Z = 0 ∧ R0 = true) ∨ (q = 0 ∧ 2048 ≤ r ∧ Z = 0 ∧ R0 = true) ∨ (q = 1 ∧ r = 2049 ∧ Z = 0 ∧ R0 = true) ∨ (q = 1 ∧ r < 2048 ∧ Z = r ∧ R0 = true ∧ r ≤ 1440) ∨ (q = 1 ∧ r < 2048 ∧ Z = r ∧ R0 = false ∧ 1440 < r) ∨
        (q = 1 ∧ 2048 ≤ r ∧ r ≠ 2049 ∧ Z = (r : Int) - 4096 ∧ R0 = true ∧ 2656 ≤ r) ∨ (q = 1 ∧ 2048 ≤ r ∧ r ≠ 2049 ∧ Z = (r : Int) - 4096 ∧ R0 = false ∧ r < 2656) ∨ (2 ≤ q ∧ r < 2048 ∧ Z = r ∧ R0 = false) ∨ (2 ≤ q ∧ 2048 ≤ r ∧ Z = (r : Int) - 4096 ∧ R0 = false)) := by
    have hk := HK.out
    have k1 : Vs.kindOf (by_ s) / 4096 = q := by omega
    have k2 : Vs.kindOf (by_ s) % 4096 = r := by omega
    have zn : Vs.zoneOf (by_ s) = if (q : Int) = 0 ∨ ((q : Int) = 1 ∧ (r : Int) = 2049) then 0 else if 2048 ≤ (r : Int) then (r : Int) - 4096 else r := by
      unfold Vs.zoneOf
      rw [k1, k2]
    have rf1 : 2 ≤ q → Vs.rightOf (by_ s) = false := fun h => by
      unfold Vs.rightOf
      rw [k1, decide_eq_false (by omega), Bool.false_and]
    have rf2 : ¬ (-1440 ≤ Vs.zoneOf (by_ s) ∧ Vs.zoneOf (by_ s) ≤ 1440) → Vs.rightOf (by_ s) = false := fun h => by
      rw [Bool.eq_false_iff]
      intro g
      unfold Vs.rightOf at g
      simp only [Bool.and_eq_true, decide_eq_true_eq] at g
      exact h ⟨g.2.1, g.2.2.1⟩
    have zE0 : (q = 0 ∨ (q = 1 ∧ r = 2049)) → Vs.zoneOf (by_ s) = 0 := fun h => by rw [zn, if_pos (by omega)]
    have zE1 : ¬ (q = 0 ∨ (q = 1 ∧ r = 2049)) → 2048 ≤ r → Vs.zoneOf (by_ s) = (r : Int) - 4096 := fun h h2 => by rw [zn, if_neg (by omega), if_pos (by omega)]
    have zE2 : ¬ (q = 0 ∨ (q = 1 ∧ r = 2049)) → r < 2048 → Vs.zoneOf (by_ s) = r := fun h h2 => by rw [zn, if_neg (by omega), if_neg (by omega)]
    rcases (show (q = 0 ∧ r < 2048) ∨ (q = 0 ∧ 2048 ≤ r) ∨ (q = 1 ∧ r = 2049) ∨ (q = 1 ∧ r < 2048 ∧ r ≤ 1440) ∨ (q = 1 ∧ r < 2048 ∧ 1440 < r) ∨ (q = 1 ∧ 2048 ≤ r ∧ r ≠ 2049 ∧ 2656 ≤ r) ∨ (q = 1 ∧ 2048 ≤ r ∧ r ≠ 2049 ∧ r < 2656) ∨ (2 ≤ q ∧ r < 2048) ∨ (2 ≤ q ∧ 2048 ≤ r) by omega) with h | h | h | h | h | h | h | h | h
    · exact ⟨0, true, fun _ => ⟨by omega, by omega, by omega, (zE0 (by omega)).symm⟩, fun g => (by cases g), .inl ⟨h.1, h.2, rfl, rfl⟩⟩
    · exact ⟨0, true, fun _ => ⟨by omega, by omega, by omega, (zE0 (by omega)).symm⟩, fun g => (by cases g), .inr (.inl ⟨h.1, h.2, rfl, rfl⟩)⟩
    · exact ⟨0, true, fun _ => ⟨by omega, by omega, by omega, (zE0 (by omega)).symm⟩, fun g => (by cases g), .inr (.inr (.inl ⟨h.1, h.2, rfl, rfl⟩))⟩
    · exact ⟨r, true, fun _ => ⟨by omega, by omega, by omega, (zE2 (by omega) (by omega)).symm⟩, fun g => (by cases g), .inr (.inr (.inr (.inl ⟨h.1, h.2.1, rfl, rfl, h.2.2⟩)))⟩
    · exact ⟨r, false, fun g => (by cases g), fun _ => rf2 (by rw [zE2 (by omega) (by omega)]; omega), .inr (.inr (.inr (.inr (.inl ⟨h.1, h.2.1, rfl, rfl, h.2.2⟩))))⟩
    · exact ⟨(r : Int) - 4096, true, fun _ => ⟨by omega, by omega, by omega, (zE1 (by omega) (by omega)).symm⟩, fun g => (by cases g), .inr (.inr (.inr (.inr (.inr (.inl ⟨h.1, h.2.1, h.2.2.1, rfl, rfl, h.2.2.2⟩)))))⟩
    · exact ⟨(r : Int) - 4096, false, fun g => (by cases g), fun _ => rf2 (by rw [zE1 (by omega) (by omega)]; omega), .inr (.inr (.inr (.inr (.inr (.inr (.inl ⟨h.1, h.2.1, h.2.2.1, rfl, rfl, h.2.2.2⟩))))))⟩
    · exact ⟨r, false, fun g => (by cases g), fun _ => rf1 h.1, .inr (.inr (.inr (.inr (.inr (.inr (.inr (.inl ⟨h.1, h.2, rfl, rfl⟩)))))))⟩
    · exact ⟨(r : Int) - 4096, false, fun g => (by cases g), fun _ => rf1 h.1, .inr (.inr (.inr (.inr (.inr (.inr (.inr (.inr ⟨h.1, h.2, rfl, rfl⟩)))))))⟩
  obtain ⟨Z, R0, hp1, hp2, hpath⟩ := path
  obtain ⟨F, hF⟩ : ∃ F : Nat → Bool, ∀ j, F j = (R0 && Vs.tail3 (by_ s) j) := ⟨_, fun _ => rfl⟩
  have HRD := Lib.hid (show Vs.readSR (by_ s) = Vs.dreadR (Vs.clockOf (by_ s)) Z (F 3) by
    rw [hF]
    exact RD.out Z R0 (fun h => by
      obtain ⟨k1, k2, k3, k4⟩ := hp1 h
      have hk := HK.out
      exact ⟨by omega, k4, k2, k3⟩) hp2)
  have HF0 := Lib.hid (show F 0 = R0 by rw [hF, HT0.out, Bool.and_true])
  have HFS := Lib.hid (fun j (h : j < 3) => show F (j + 1) = (F j && decide (Cs.byt (by_ s) (9 + j) ≤ 99)) by rw [hF, hF, HST.out j h, Bool.and_assoc])
  have CD2 := Lib.hid (fun W => CD.out Z (F 3) W)
  rw [HRD.out]
  generalize Vs.dreadR (Vs.clockOf (by_ s)) Z (F 3) = dr at *
  obtain ⟨⟨o1', o2'⟩, o3'⟩ := dr
  simp only [] at CD2 ⊢
  have hs12 : (s.size : Int) = 12 := by omega
  have HSZ := Lib.hid hl
  clear hT RD HK HC HT0 HST hT0 CD hKe HQR hp1 hp2 hF HRD
  unfold by_ at *
  have m0 : ((Cs.byt s.data.toList 0 : Nat) : Int) < 256 := by omega
  have m1 : ((Cs.byt s.data.toList 1 : Nat) : Int) < 256 := by omega
  have m2 : ((Cs.byt s.data.toList 2 : Nat) : Int) < 256 := by omega
  have m3 : ((Cs.byt s.data.toList 3 : Nat) : Int) < 256 := by omega
  have m4 : ((Cs.byt s.data.toList 4 : Nat) : Int) < 256 := by have := Cs.byt_lt s.data.toList 4; omega
  have m5 : ((Cs.byt s.data.toList 5 : Nat) : Int) < 256 := by have := Cs.byt_lt s.data.toList 5; omega
  have m6 : ((Cs.byt s.data.toList 6 : Nat) : Int) < 256 := by have := Cs.byt_lt s.data.toList 6; omega
  have m7 : ((Cs.byt s.data.toList 7 : Nat) : Int) < 256 := by have := Cs.byt_lt s.data.toList 7; omega
  have m8 : ((Cs.byt s.data.toList 8 : Nat) : Int) < 256 := by have := Cs.byt_lt s.data.toList 8; omega
  have e23 : Cs.byt s.data.toList 2 + 256 * Cs.byt s.data.toList 3 < 65536 := by omega
  generalize Cs.byt s.data.toList 2 + 256 * Cs.byt s.data.toList 3 = y23 at *
  generalize Cs.byt s.data.toList 0 = b0 at *
  generalize Cs.byt s.data.toList 1 = b1 at *
  generalize Cs.byt s.data.toList 2 = b2 at *
  generalize Cs.byt s.data.toList 3 = b3 at *
  generalize Cs.byt s.data.toList 4 = b4 at *
  generalize Cs.byt s.data.toList 5 = b5 at *
  generalize Cs.byt s.data.toList 6 = b6 at *
  generalize Cs.byt s.data.toList 7 = b7 at *
  generalize Cs.byt s.data.toList 8 = b8 at *
  have hr5 : (r : Int) < 4096 := by omega
  have hK0 : (0 : Int) ≤ (K : Int) := by omega
  have hK1 : (K : Int) < 65536 := by omega
  clear l0 l1 l2 l3 hqr
  go_enter Tryz.func106, Tryz.ntmps106
  go_wp2_with fail
  refine wp_region_later w.heap.size (by kernel_rfl) (by kernel_rfl) ?_
  repeat (any_goals (first | go_big_quiet_skip | (go_big_quiet_want; go_big_quiet_op; go_big_quiet_on)))
  refine wpQuiet_nil ?_
  intro wp0 hw0'
  obtain ⟨⟨wp, hbp⟩, hw0''⟩ := hw0'
  subst hw0''
  have HBP := Lib.hid hbp
  clear hbp
  obtain ⟨cap, W1, hcv, hbW, hsW, hcap, hcells⟩ := Kit.str_bytes wp0 (s.extract 9 12)
  rw [hes] at hcv hcap hcells
  have HCL := Lib.hid hcells
  have HBW := Lib.hid (HBP.out.trans (hbW.mono HBP.out.size))
  have hcw : wp0.heap.size < W1.heap.size := by omega
  have HSW := Lib.hid (show w.heap.size ≤ W1.heap.size from HBW.out.size)
  clear hes hcells hbW hcap
  have CZa := Lib.hid (fun W => isZone_any (r : Int) W)
  have CZb := Lib.hid (fun W => isZone_any ((r : Int) - 4096) W)
  rcases hpath with ⟨q0, r1, rfl, rfl⟩ | ⟨q0, r1, rfl, rfl⟩ | ⟨q0, r1, rfl, rfl⟩ | ⟨q0, r1, rfl, rfl, r2⟩ | ⟨q0, r1, rfl, rfl, r2⟩ | ⟨q0, r1, rn, rfl, rfl, r2⟩ | ⟨q0, r1, rn, rfl, rfl, r2⟩ | ⟨q0, r1, rfl, rfl⟩ | ⟨q0, r1, rfl, rfl⟩
  all_goals
    first
      | have hr : (r : Int) < 2048 := by omega
      | have hr : 2048 ≤ (r : Int) := by omega
    first
      | have a3 : (K : Int) / 4096 = 0 := by omega
      | have a3 : (K : Int) / 4096 = 1 := by omega
      | have f1 : ((q : Int) == 0) = false := by rw [beq_eq_false_iff_ne]; omega
        have f2 : ((q : Int) == 1) = false := by rw [beq_eq_false_iff_ne]; omega
        have f3 : decide (1 < (q : Int)) = true := decide_eq_true (by omega)
        have f4 : 1 < q := by omega
        have a3 : (K : Int) / 4096 = q := a2
    try have e1 : (((r : Int) - 4096) == -2047) = true := by rw [beq_iff_eq]; omega
    try have e2 : (((r : Int) - 4096) == -2047) = false := by rw [beq_eq_false_iff_ne]; omega
    have e3 : ((r : Int) == -2047) = false := by rw [beq_eq_false_iff_ne]; omega
    try rw [decide_eq_true (show -1440 ≤ (r : Int) by omega), decide_eq_true (show (r : Int) ≤ 1440 by omega)] at CZa
    try rw [decide_eq_true (show -1440 ≤ (r : Int) by omega), decide_eq_false (show ¬ (r : Int) ≤ 1440 by omega)] at CZa
    try rw [decide_eq_true (show -1440 ≤ (r : Int) - 4096 by omega), decide_eq_true (show (r : Int) - 4096 ≤ 1440 by omega)] at CZb
    try rw [decide_eq_false (show ¬ -1440 ≤ (r : Int) - 4096 by omega), decide_eq_true (show (r : Int) - 4096 ≤ 1440 by omega)] at CZb
    try simp only [Bool.and_true] at CZa
    try simp only [Bool.and_false] at CZa
    try simp only [Bool.and_true] at CZb
    clear a2 hr4 hKl hK0 hK1 r1 e23
    go_wp2_with (first | (with_reducible refine (CZa.out _).mono ?_; rintro e w2 ⟨rfl, hw⟩; subst hw) | (with_reducible refine (CZb.out _).mono ?_; rintro e w2 ⟨rfl, hw⟩; subst hw))
    go_loop [7, 9, 53] (fun rv _ iv => ∃ j : Nat, j ≤ 3 ∧ iv = .int .i64 j ∧ rv = .bool (F j)) (fun _ _ iv => 3 - (intOf iv).toNat)
    case atStart => exact ⟨0, by omega, rfl, by rw [HF0.out]⟩
    case round =>
      obtain ⟨j, hj, rfl, rfl⟩ := hrel
      by_cases hlt : j < 3
      · have hc := HCL.out j hlt
        rw [HT.out j hlt] at hc
        have HN := Lib.hid (HFS.out j hlt)
        generalize Cs.byt s.data.toList (9 + j) = bt at *
        generalize F j = B at *
        cases B with
        | false =>
          go_wp2_with fail
          go_round
          case rel => exact ⟨j + 1, by omega, by go_num, by rw [HN.out]; rfl⟩
          case measure => simp [intOf]; omega
        | true =>
          rw [Bool.true_and] at HN
          obtain ⟨D, hD⟩ : ∃ D : Bool, decide ((bt : Int) ≤ 99) = D := ⟨_, rfl⟩
          have HD := Lib.hid (show decide (bt ≤ 99) = D by rw [← hD]; congr 1; exact propext (by omega))
          go_wp2_with fail
          go_round
          case rel => exact ⟨j + 1, by omega, by go_num, by rw [HN.out, HD.out]⟩
          case measure => simp [intOf]; omega
      · obtain rfl : j = 3 := by omega
        generalize F 3 = B at *
        go_wp2_with fail
        refine wp_region_later W1.heap.size (by kernel_rfl) (by kernel_rfl) ?_
        repeat (any_goals (first | go_big_quiet_skip | (go_big_quiet_want; go_big_quiet_op; first | go_big_quiet_on | (apply Exists.intro; refine ⟨fun _ => ?_, ?_⟩; (with_reducible refine Calls.later_of ?_ (CD2.out _); exact Nat.le_refl _); go_big_quiet_on))))
        refine wpQuiet_nil ?_
        intro wq hw'
        obtain ⟨⟨wz, hbq⟩, hw''⟩ := hw'
        subst hw''
        have HBZ := Lib.hid (HBW.out.trans (hbq.mono HSW.out))
        clear hbq
        go_wp2_with fail
        go_ret3
        exact ⟨rfl, HBZ.out⟩
end Go.Proofs.YthkppbimkjmbnaaGreatDoor

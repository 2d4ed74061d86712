/-
  The walks through the reference's Formed, short, EncodeLong of one extent, long.
-/
import Derived.Test.YthkppbimkjmbnaaGreatDoorZn
import Derived.Test.YthkppbimkjmbnaaGreatDoorZN
import Derived.Test.YthkppbimkjmbnaaGreatDoorZB
namespace Go.Proofs.YthkppbimkjmbnaaGreatDoor
open Go.RowKit
open Vs (bs by_)

set_option maxHeartbeats 6400000 in
set_option maxRecDepth 100000 in
/-- masterdiscref33.Formed. -/
theorem rFormed_any (v : Value) (l : List Pm.X) (w : World) (hm : Pm.ExtsAt w v l) :
    Calls Tryz.prog 136 #[v] w fun e w' => e = .returned (.bool (Pm.formed l)) ∧ Below w.heap.size w w' := by
  have HM := Lib.hid hm
  obtain ⟨A, c, rfl, hlc, hcm, hcells⟩ := hm.row
  have HCE := Lib.hid hcells
  clear hcells hm
  unfold maxLen at hcm
  go_enter Tryz.func136, Tryz.ntmps136
  go_wp2_with fail
  go_loopw [3] (fun iv wr => ∃ j : Nat, j ≤ l.length ∧ iv = .int .i64 j ∧ (l.take j).all Pm.formed1 = true ∧ Below w.heap.size w wr) (fun iv _ => l.length - (intOf iv).toNat)
  case atStart => exact ⟨0, by omega, rfl, rfl, Below.refl _ _⟩
  case round =>
    obtain ⟨j, hj, rfl, hall, hbw⟩ := hrel
    by_cases hlt : j < l.length
    · obtain ⟨bl, o, rfl, hbl, hc⟩ := HCE.out (by omega)
      obtain ⟨c0, c1, c2, c3⟩ := Pm.four hbl hbw (hc j hlt)
      have hiff := Pm.formed1_iff (l.getD j Pm.x0)
      have HYES := Lib.hid (fun h => all_snocX hlt hall h)
      have HNO := Lib.hid (fun h => all_failX (p := Pm.formed1) hlt h)
      have HBW := Lib.hid hbw
      have HBS := Lib.hid hbw.size
      clear hc hall hbw
      generalize hq : l.getD j Pm.x0 = x at *
      clear hq
      generalize hV : Pm.formed1 x = V at *
      obtain ⟨k, n, b, p⟩ := x
      simp only [] at *
      clear hV
      have hcs : (0 ≤ k ∧ k ≤ 3 ∧ 1 ≤ n ∧ n < 1073741824 ∧ 0 ≤ b ∧ b < 4294967296 ∧ 0 ≤ p ∧ p ≤ 65535) ∨ (k < 0) ∨ (0 ≤ k ∧ 3 < k) ∨ (0 ≤ k ∧ k ≤ 3 ∧ n < 1) ∨ (0 ≤ k ∧ k ≤ 3 ∧ 1 ≤ n ∧ 1073741824 ≤ n) ∨
          (0 ≤ k ∧ k ≤ 3 ∧ 1 ≤ n ∧ n < 1073741824 ∧ b < 0) ∨ (0 ≤ k ∧ k ≤ 3 ∧ 1 ≤ n ∧ n < 1073741824 ∧ 0 ≤ b ∧ 4294967296 ≤ b) ∨ (0 ≤ k ∧ k ≤ 3 ∧ 1 ≤ n ∧ n < 1073741824 ∧ 0 ≤ b ∧ b < 4294967296 ∧ p < 0) ∨
          (0 ≤ k ∧ k ≤ 3 ∧ 1 ≤ n ∧ n < 1073741824 ∧ 0 ≤ b ∧ b < 4294967296 ∧ 0 ≤ p ∧ 65535 < p) := by omega
      rcases hcs with h | h | h | h | h | h | h | h | h
      · have HV := Lib.hid (HYES.out (hiff.2 h))
        clear hiff HYES HNO
        obtain ⟨h1, h2, h3, h4, h5, h6, h7, h8⟩ := h
        have d1 : decide (k < 0) = false := decide_eq_false (by omega)
        have d2 : decide (3 < k) = false := decide_eq_false (by omega)
        have d3 : decide (n < 1) = false := decide_eq_false (by omega)
        have d4 : decide (1073741824 ≤ n) = false := decide_eq_false (by omega)
        have d5 : decide (b < 0) = false := decide_eq_false (by omega)
        have d6 : decide (4294967296 ≤ b) = false := decide_eq_false (by omega)
        have d7 : decide (p < 0) = false := decide_eq_false (by omega)
        have d8 : decide (65535 < p) = false := decide_eq_false (by omega)
        clear h1 h2 h3 h4 h5 h6 h7 h8
        go_wp2_with fail
        go_roundw
        case rel => exact ⟨j + 1, by omega, by go_num, HV.out, HBW.out.alloc HBS.out _⟩
        case measure => simp [intOf]; omega
      all_goals
        have HV := Lib.hid (show Pm.formed l = false by
          unfold Pm.formed
          rw [HNO.out (by rw [Bool.eq_false_iff]; intro hv; have := hiff.1 hv; omega)]
          simp)
        clear hiff HYES HNO
        try have d1 : decide (k < 0) = false := decide_eq_false (by omega)
        try have d1' : decide (k < 0) = true := decide_eq_true (by omega)
        try have d2 : decide (3 < k) = false := decide_eq_false (by omega)
        try have d2' : decide (3 < k) = true := decide_eq_true (by omega)
        try have d3 : decide (n < 1) = false := decide_eq_false (by omega)
        try have d3' : decide (n < 1) = true := decide_eq_true (by omega)
        try have d4 : decide (1073741824 ≤ n) = false := decide_eq_false (by omega)
        try have d4' : decide (1073741824 ≤ n) = true := decide_eq_true (by omega)
        try have d5 : decide (b < 0) = false := decide_eq_false (by omega)
        try have d5' : decide (b < 0) = true := decide_eq_true (by omega)
        try have d6 : decide (4294967296 ≤ b) = false := decide_eq_false (by omega)
        try have d6' : decide (4294967296 ≤ b) = true := decide_eq_true (by omega)
        try have d7 : decide (p < 0) = false := decide_eq_false (by omega)
        try have d7' : decide (p < 0) = true := decide_eq_true (by omega)
        try have d8 : decide (65535 < p) = true := decide_eq_true (by omega)
        clear h
        go_wp2_with fail
        go_ret
        rw [HV.out]
        exact ⟨rfl, HBW.out.alloc HBS.out _⟩
    · obtain rfl : j = l.length := by omega
      rw [List.take_length] at hall
      have HR := Lib.hid (show Pm.formed l = decide (l.length ≤ 64) by unfold Pm.formed; rw [hall]; simp)
      clear hall
      by_cases h64 : l.length ≤ 64
      · have d : decide ((l.length : Int) ≤ 64) = true := decide_eq_true (by omega)
        rw [decide_eq_true h64] at HR
        go_wp2_with fail
        go_ret
        rw [HR.out]
        exact ⟨rfl, hbw⟩
      · have d : decide ((l.length : Int) ≤ 64) = false := decide_eq_false (by omega)
        rw [decide_eq_false h64] at HR
        go_wp2_with fail
        go_ret
        rw [HR.out]
        exact ⟨rfl, hbw⟩


set_option maxHeartbeats 3200000 in
set_option maxRecDepth 100000 in
/-- masterdiscref33.short. -/
theorem r33Short_any (x : Pm.X) (w : World) (hx : Pm.formed1 x = true) :
    Calls Tryz.prog 218 #[Pm.exV x] w fun e w' => e = .returned (.string (bs (Vs.n4 (x.length + 1073741824 * x.kind) ++ Vs.n4 x.block))) ∧ Below w.heap.size w w' := by
  have hx := (Pm.formed1_iff x).1 hx
  unfold Pm.exV
  obtain ⟨k, n, b, p⟩ := x
  simp only [] at *
  obtain ⟨x1, x2, x3, x4, x5, x6, x7, x8⟩ := hx
  have C1 := Lib.hid (fun W => r01_any (n + 1073741824 * k).toNat 4 (n + k * 1073741824) 4 (by omega) rfl (by omega) (by omega) W)
  have C2 := Lib.hid (fun W => r01_any b.toNat 4 b 4 (by omega) rfl (by omega) (by omega) W)
  have HS := Lib.hid (show bs (Pm.le 4 (n + 1073741824 * k).toNat) ++ bs (Pm.le 4 b.toNat) = bs (Vs.n4 (n + 1073741824 * k) ++ Vs.n4 b) from Vs.bs_app _ _)
  have z1 : (bs (Pm.le 4 (n + 1073741824 * k).toNat)).size ≤ 4 := by rw [Vs.bs_size, Pm.le_len]; decide
  have z2 : (bs (Pm.le 4 b.toNat)).size ≤ 4 := by rw [Vs.bs_size, Pm.le_len]; decide
  generalize bs (Pm.le 4 (n + 1073741824 * k).toNat) = l1 at *
  generalize bs (Pm.le 4 b.toNat) = l2 at *
  have HB := Lib.hid ((Below.refl w.heap.size w).alloc (Nat.le_refl _) (.cells #[.int .i64 k, .int .i64 n, .int .i64 b, .int .i64 p] 44))
  have hbx : ∀ j, (w.alloc (.cells #[.int .i64 k, .int .i64 n, .int .i64 b, .int .i64 p] 44)).cell? ⟨w.heap.size, j, none⟩ = (#[.int .i64 k, .int .i64 n, .int .i64 b, .int .i64 p] : Array Value)[j]? := fun j => cell_of_row _ _ _ _ _ _ (heap_alloc_new w _)
  have y0 := fun x : Later (w.heap.size + 1) (w.alloc (.cells #[.int .i64 k, .int .i64 n, .int .i64 b, .int .i64 p] 44)) => later_cell x (by omega) (hbx 0)
  have y1 := fun x : Later (w.heap.size + 1) (w.alloc (.cells #[.int .i64 k, .int .i64 n, .int .i64 b, .int .i64 p] 44)) => later_cell x (by omega) (hbx 1)
  have y2 := fun x : Later (w.heap.size + 1) (w.alloc (.cells #[.int .i64 k, .int .i64 n, .int .i64 b, .int .i64 p] 44)) => later_cell x (by omega) (hbx 2)
  have HSZ := Lib.hid (show (w.alloc (.cells #[.int .i64 k, .int .i64 n, .int .i64 b, .int .i64 p] 44)).heap.size = w.heap.size + 1 by simp)
  have hw1 : IntKind.i64.wrap (k * 1073741824) = k * 1073741824 := IntWalk.i64_in _ (by omega)
  have hw2 : IntKind.i64.wrap (n + k * 1073741824) = n + k * 1073741824 := IntWalk.i64_in _ (by omega)
  clear hbx
  go_enter Tryz.func218, Tryz.ntmps218
  go_wp2_with fail
  refine wp_region_later (w.heap.size + 1) (by kernel_rfl) (by kernel_rfl) ?_
  repeat (any_goals (first | go_big_quiet_skip | (go_big_quiet_want; go_big_quiet_op; first | go_big_quiet_on | (apply Exists.intro; refine ⟨fun _ => ?_, ?_⟩; (first | (with_reducible refine Calls.later_of ?_ (C1.out _); simp) | (with_reducible refine Calls.later_of ?_ (C2.out _); simp)); go_big_quiet_on))))
  refine wpQuiet_nil ?_
  intro wq hw'
  obtain ⟨⟨wz, hbq⟩, hw''⟩ := hw'
  subst hw''
  have HBZ := Lib.hid (HB.out.trans (hbq.mono (by omega)))
  clear y0 y1 y2 hbq
  go_wp2_with fail
  go_ret
  rw [← HS.out]
  exact ⟨rfl, HBZ.out⟩

set_option maxHeartbeats 3200000 in
set_option maxRecDepth 100000 in
/-- masterdiscref33.EncodeLong, of one extent. -/
theorem r33EncodeLong_x (v : Value) (x : Pm.X) (w : World) (hm : Pm.ExtsAt w v [x]) (hx : Pm.formed1 x = true) :
    Calls Tryz.prog 156 #[v] w fun e w' => e = .returned (.tuple #[.string (bs (Vs.longL x.kind x.length x.block x.part)), .int .i64 0]) ∧ Below w.heap.size w w' := by
  have CF := Lib.hid (fun W h => rFormed_any v [x] W h)
  have hfx : Pm.formed [x] = Pm.formed1 x := by simp [Pm.formed]
  rw [hfx, hx] at CF
  have HM := Lib.hid hm
  have CS := Lib.hid (fun W => r33Short_any x W hx)
  have hx := (Pm.formed1_iff x).1 hx
  obtain ⟨A, c, rfl, hlc, hcm, hcells⟩ := hm.row
  obtain ⟨bl, o, rfl, hbl, hc⟩ := hcells (by simp)
  have hcc := hc 0 (by simp)
  clear hc hcells hm hfx
  have hcc := Lib.hid hcc
  unfold Pm.exV at CS
  obtain ⟨k, n, b, p⟩ := x
  simp only [List.getD_cons_zero] at *
  obtain ⟨x1, x2, x3, x4, x5, x6, x7, x8⟩ := hx
  have C2 := Lib.hid (fun W => r01_any p.toNat 2 p 2 (by omega) rfl (by omega) (by omega) W)
  have CZ := Lib.hid (fun W => vZeros_any 6 (by decide) (by decide) W)
  rw [show (⟨(List.replicate (6 : Int).toNat 0).toArray⟩ : ByteArray) = bs (Vs.z 6) from rfl] at CZ
  have HS := Lib.hid (show (⟨#[]⟩ : ByteArray) ++ bs (Vs.n4 (n + 1073741824 * k) ++ Vs.n4 b) ++ bs (Pm.le 2 p.toNat) ++ bs (Vs.z 6) = bs (Vs.longL k n b p) by
    show bs [] ++ bs (Vs.n4 (n + 1073741824 * k) ++ Vs.n4 b) ++ bs (Pm.le 2 p.toNat) ++ bs (Vs.z 6) = _
    rw [Vs.bs_app, Vs.bs_app, Vs.bs_app]
    refine congrArg bs ?_
    unfold Vs.longL Vs.n2
    simp only [List.append_assoc, List.nil_append])
  have z1 : (bs (Vs.n4 (n + 1073741824 * k) ++ Vs.n4 b)).size ≤ 8 := by rw [Vs.bs_size, List.length_append, Vs.n4_len, Vs.n4_len]; decide
  have z2 : (bs (Pm.le 2 p.toNat)).size ≤ 2 := by rw [Vs.bs_size, Pm.le_len]; decide
  have z3 : (bs (Vs.z 6)).size ≤ 6 := by rw [Vs.bs_size, Vs.z_len]; decide
  have z4 : (bs (Vs.longL k n b p)).size ≤ 16 := by rw [Vs.bs_size, Vs.longL_len]; decide
  generalize bs (Vs.n4 (n + 1073741824 * k) ++ Vs.n4 b) = l1 at *
  generalize bs (Pm.le 2 p.toNat) = l2 at *
  generalize bs (Vs.z 6) = l3 at *
  generalize bs (Vs.longL k n b p) = R at *
  simp only [List.length_cons, List.length_nil, Nat.zero_add] at *
  clear x1 x2 x3 x4 x5 x6 x7 x8
  go_enter Tryz.func156, Tryz.ntmps156
  go_wp2_with fail
  with_reducible refine (CF.out _ HM.out).mono ?_
  rintro e w2 ⟨rfl, hb2⟩
  have HB2 := Lib.hid hb2
  clear hb2
  go_wp2_with fail
  go_loopw [4, 5] (fun sv iv wr => ((iv = .int .i64 ((0 : Nat) : Int) ∧ sv = .string ⟨#[]⟩) ∨ (iv = .int .i64 ((1 : Nat) : Int) ∧ sv = .string R)) ∧ Below w.heap.size w wr) (fun _ iv _ => 1 - (intOf iv).toNat)
  case atStart => exact ⟨.inl ⟨rfl, rfl⟩, HB2.out⟩
  case round =>
    obtain ⟨(⟨rfl, rfl⟩ | ⟨rfl, rfl⟩), hbw⟩ := hrel
    · obtain ⟨c0, c1, c2, c3⟩ := Pm.four (x := ⟨k, n, b, p⟩) (j := 0) hbl hbw hcc.out
      simp only [Nat.zero_mul, Nat.add_zero] at c0 c1 c2 c3
      have HBW := Lib.hid hbw
      have hlt : bl < wr.heap.size := Nat.lt_of_lt_of_le hbl hbw.size
      have y0 := fun x : Later wr.heap.size wr => later_cell x hlt c0
      have y1 := fun x : Later wr.heap.size wr => later_cell x hlt c1
      have y2 := fun x : Later wr.heap.size wr => later_cell x hlt c2
      have y3 := fun x : Later wr.heap.size wr => later_cell x hlt c3
      clear hbw
      go_wp2_with fail
      refine wp_region_later wr.heap.size (by kernel_rfl) (by kernel_rfl) ?_
      repeat (any_goals (first | go_big_quiet_skip | (go_big_quiet_want; go_big_quiet_op; first | go_big_quiet_on | (apply Exists.intro; refine ⟨fun _ => ?_, ?_⟩; (first | (with_reducible refine Calls.later_of ?_ (CS.out _); exact Nat.le_refl _) | (with_reducible refine Calls.later_of ?_ (C2.out _); exact Nat.le_refl _) | (with_reducible refine Calls.later_of ?_ (CZ.out _); exact Nat.le_refl _)); go_big_quiet_on))))
      refine wpQuiet_nil ?_
      intro wq hw'
      obtain ⟨⟨wz, hbq⟩, hw''⟩ := hw'
      subst hw''
      clear y0 y1 y2 y3 c0 c1 c2 c3
      go_wp2_with fail
      go_roundw
      case rel => exact ⟨.inr ⟨by go_num, by rw [HS.out]⟩, HBW.out.trans (hbq.mono HBW.out.size)⟩
      case measure => simp [intOf]
    · go_wp2_with fail
      go_ret2
      exact ⟨rfl, hbw⟩

set_option maxHeartbeats 1600000 in
set_option maxRecDepth 100000 in
/-- masterdiscref36.long. -/
theorem r36Long_any (x : Pm.X) (w : World) (hx : Pm.formed1 x = true) :
    Calls Tryz.prog 104 #[Pm.exV x] w fun e w' => e = .returned (.string (bs (Vs.longL x.kind x.length x.block x.part))) ∧ Below w.heap.size w w' := by
  have CE := Lib.hid (fun W v h => r33EncodeLong_x v x W h hx)
  have HX := Lib.hid (fun W g hg => Vs.extOne W x g hg)
  unfold Pm.exV
  clear hx
  generalize bs (Vs.longL x.kind x.length x.block x.part) = R at *
  obtain ⟨k, n, b, p⟩ := x
  simp only [] at *
  go_enter Tryz.func104, Tryz.ntmps104
  go_wp2_with fail
  with_reducible refine (CE.out _ _ (HX.out (w.alloc (.cells #[.int .i64 k, .int .i64 n, .int .i64 b, .int .i64 p] 44)) (w.heap.size + 1) (by simp))).mono ?_
  rintro e w2 ⟨rfl, hb2⟩
  go_wp2_with fail
  go_ret
  exact ⟨rfl, (((Below.refl w.heap.size w).alloc (Nat.le_refl _) _).alloc (by simp) _).trans (hb2.mono (by simp; omega))⟩
end Go.Proofs.YthkppbimkjmbnaaGreatDoor

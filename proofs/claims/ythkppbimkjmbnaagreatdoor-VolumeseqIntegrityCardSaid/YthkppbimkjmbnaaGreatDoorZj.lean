/-
  The walks through the reference's tags: sum, summed, Make, ranged, Block.
-/
import Derived.Test.YthkppbimkjmbnaaGreatDoorZi
import Derived.Test.YthkppbimkjmbnaaGreatDoorZG
namespace Go.Proofs.YthkppbimkjmbnaaGreatDoor
open Go.RowKit
open Vs (bs by_)
set_option maxHeartbeats 1600000 in
set_option maxRecDepth 100000 in
/-- masterdiscref31.sum. -/
theorem r31Sum_any (s : ByteArray) (h : 16 ≤ s.size) (hs : s.size ≤ 9223372036854775807) (w : World) : Calls Tryz.prog 142 #[.string s] w fun e w' => e = .returned (.int .u8 (Vs.sumT (by_ s) : Nat)) ∧ ∃ n, w' = w.drewN n := by
  have e1 : s.extract 0 4 ++ s.extract 5 16 = bs (Vs.sl (by_ s) 0 4 ++ Vs.sl (by_ s) 5 11) := by
    rw [Vs.bs_ext s 0 4, Vs.bs_ext s 5 16, Vs.bs_app]
  have CS := Lib.hid (fun W => rSum8_any (s.extract 0 4 ++ s.extract 5 16) W (by rw [e1, Vs.bs_size, List.length_append, Vs.sl_len (by rw [Vs.by_len]; omega), Vs.sl_len (by rw [Vs.by_len]; omega)]; decide))
  have HS := Lib.hid (show Vs.sumR (s.extract 0 4 ++ s.extract 5 16).data.toList = Vs.sumT (by_ s) by rw [e1]; rfl)
  rw [HS.out] at CS
  clear e1 HS
  generalize Vs.sumT (by_ s) = T at *
  go_enter Tryz.func142, Tryz.ntmps142
  go_wp2_with fail
  go_quiet ((go_at_call 207; exact Calls.quiet_of_same ((CS.out _).mono fun _ _ h => ⟨h.1, h.2.symm⟩)))
  go_wp2_with fail
  go_ret
  exact ⟨rfl, _, rfl⟩
set_option maxHeartbeats 6400000 in
set_option maxRecDepth 100000 in
/-- masterdiscref31.summed. -/
theorem r31Summed_any (s : ByteArray) (h : 16 ≤ s.size) (hs : s.size ≤ 9223372036854775807) (w : World) : Calls Tryz.prog 177 #[.string s] w fun e w' => e = .returned (.string (bs (Vs.sl (by_ s) 0 4 ++ (UInt8.ofNat (Vs.sumT (by_ s)) :: (by_ s).drop 5)))) ∧ Below w.heap.size w w' := by
  have CS := Lib.hid (fun W => r31Sum_any s h hs W)
  have hT := Vs.sumR_lt (Vs.sl (by_ s) 0 4 ++ Vs.sl (by_ s) 5 11)
  change Vs.sumT (by_ s) < 256 at hT
  generalize hTT : Vs.sumT (by_ s) = T at *
  have HR := Lib.hid (show s.extract 0 4 ++ ⟨#[UInt8.ofNat T]⟩ ++ s.extract 5 s.size = bs (Vs.sl (by_ s) 0 4 ++ (UInt8.ofNat T :: (by_ s).drop 5)) by
    rw [Vs.bs_ext s 0 4, Vs.bs_ext s 5 s.size, show (⟨#[UInt8.ofNat T]⟩ : ByteArray) = bs [UInt8.ofNat T] from rfl, Vs.bs_app, Vs.bs_app, List.append_assoc]
    congr 2
    show [UInt8.ofNat T] ++ Vs.sl (by_ s) 5 (s.size - 5) = _
    unfold Vs.sl
    rw [List.take_of_length_le (by rw [List.length_drop, Vs.by_len]; omega)]
    rfl)
  have HB := Lib.hid (fun n : Nat => (Kit.Below.drewN (Below.refl w.heap.size w) n).alloc (by simp) (.cells #[.int .u8 (T : Int)] 5))
  have hcv : ∀ n : Nat, (convert 126 9 (.slice (some ⟨w.heap.size, 0, none⟩) 1 1)).run Tryz.prog ((w.drewN n).alloc (.cells #[.int .u8 (T : Int)] 5)) = .ok (.string ⟨#[UInt8.ofNat T]⟩) ((w.drewN n).alloc (.cells #[.int .u8 (T : Int)] 5)) := fun n => run_convert_bytes_back (P := Tryz.prog) ((w.drewN n).alloc (.cells #[.int .u8 (T : Int)] 5)) 126 9 5 ⟨w.heap.size, 0, none⟩ 1 [UInt8.ofNat T] Tryz.underlying126 Tryz.underlying5 Tryz.underlying9 (fun i hi => by
    have hi0 : i = 0 := by simp at hi; exact hi
    subst hi0
    rw [Addr.add_lit, Nat.zero_add]
    have hz := heap_alloc_new (w.drewN n) (.cells #[.int .u8 (T : Int)] 5)
    rw [show (w.drewN n).heap.size = w.heap.size by simp] at hz
    rw [cell_of_row _ _ 0 _ _ _ hz]
    simp
    omega)
  go_enter Tryz.func177, Tryz.ntmps177
  go_wp2_with fail
  go_region_with (go_at_call 142; refine (CS.out _).mono ?_; rintro e w2 ⟨rfl, nq, rfl⟩)
  all_goals
    clear hcv
    go_wp2_with fail
    go_ret
    rw [HR.out]
    first
      | exact ⟨rfl, HB.out _⟩
      | exact ⟨rfl, Kit.Below.drewN (HB.out _) _⟩
      | exact ⟨rfl, (HB.out _).drew⟩

namespace Vs
theorem tag0_ref (id ser loc : Nat) (body : List UInt8) : bs (Pm.le 2 id) ++ ⟨#[3, 0, 0, 0]⟩ ++ bs (Pm.le 2 ser) ++ bs (Pm.le 2 (crcR body)) ++ bs (Pm.le 2 body.length) ++ bs (Pm.le 4 loc) = bs (tag0 id ser loc body) := by
  rw [show (⟨#[3, 0, 0, 0]⟩ : ByteArray) = bs [3, 0, 0, 0] from rfl]
  rw [bs_app, bs_app, bs_app, bs_app, bs_app]
  refine congrArg bs ?_
  unfold tag0 tagH tagE
  simp only [List.append_assoc, List.cons_append, List.nil_append]
  rfl
end Vs
theorem r01_any (n : Nat) (k : Nat) (N K : Int) (hN : N = (n : Int)) (hK : K = (k : Int)) (hk : k ≤ 4096) (hn : n ≤ 9223372036854775807) (w : World) :
    Calls Tryz.prog 80 #[.int .i64 N, .int .i64 K] w fun e w' => e = .returned (.string (bs (Pm.le k n))) ∧ Below w.heap.size w w' := by
  subst hN hK
  exact rBytes_any n k hk hn w

set_option maxHeartbeats 6400000 in
set_option maxRecDepth 100000 in
/-- masterdiscref31.Make. -/
theorem r31Make_any (id ser loc : Nat) (body : ByteArray) (w : World) (h1 : id < 65536) (h2 : ser < 65536) (h3 : loc < 4294967296) (hb : body.size ≤ 65535) :
    Calls Tryz.prog 120 #[.int .i64 (id : Int), .int .i64 (ser : Int), .int .i64 (loc : Int), .string body] w fun e w' => e = .returned (.string (bs (Vs.tagR id ser loc (by_ body) ++ by_ body))) ∧ Below w.heap.size w w' := by
  have hcr := Vs.crcR_lt (by_ body)
  have L1 := Lib.hid (fun W => r01_any id 2 id 2 rfl rfl (by omega) (by omega) W)
  have L3 := Lib.hid (fun W => r01_any ser 2 ser 2 rfl rfl (by omega) (by omega) W)
  have L4 := Lib.hid (fun W => r01_any (Vs.crcR (by_ body)) 2 _ 2 rfl rfl (by omega) (by omega) W)
  have L5 := Lib.hid (fun W => r01_any body.size 2 _ 2 rfl rfl (by omega) (by omega) W)
  have L6 := Lib.hid (fun W => r01_any loc 4 loc 4 rfl rfl (by omega) (by omega) W)
  have CC := Lib.hid (fun W => rCrc16_any body W (by omega))
  have HP := Lib.hid (Vs.tag0_ref id ser loc (by_ body))
  rw [Vs.by_len] at HP
  have CS := Lib.hid (fun W => r31Summed_any (bs (Vs.tag0 id ser loc (by_ body))) (by rw [Vs.bs_size, Vs.tag0_len]; decide) (by rw [Vs.bs_size, Vs.tag0_len]; decide) W)
  rw [Vs.by_bs, Vs.tag0_sum] at CS
  rw [← HP.out] at CS
  have HF := Lib.hid (show bs (Vs.tagR id ser loc (by_ body)) ++ body = bs (Vs.tagR id ser loc (by_ body) ++ by_ body) by rw [← Vs.bs_app, Vs.bs_by])
  have z1 : (bs (Pm.le 2 id)).size ≤ 2 := by rw [Vs.bs_size, Pm.le_len]; decide
  have z3 : (bs (Pm.le 2 ser)).size ≤ 2 := by rw [Vs.bs_size, Pm.le_len]; decide
  have z4 : (bs (Pm.le 2 (Vs.crcR (by_ body)))).size ≤ 2 := by rw [Vs.bs_size, Pm.le_len]; decide
  have z5 : (bs (Pm.le 2 body.size)).size ≤ 2 := by rw [Vs.bs_size, Pm.le_len]; decide
  have z6 : (bs (Pm.le 4 loc)).size ≤ 4 := by rw [Vs.bs_size, Pm.le_len]; decide
  have z7 : (bs (Vs.tagR id ser loc (by_ body))).size ≤ 16 := by rw [Vs.bs_size, Vs.tagR_len]; decide
  generalize bs (Vs.tagR id ser loc (by_ body) ++ by_ body) = res at *
  generalize bs (Vs.tagR id ser loc (by_ body)) = tg at *
  generalize bs (Pm.le 2 id) = b1 at *
  generalize bs (Pm.le 2 ser) = b3 at *
  generalize bs (Pm.le 2 (Vs.crcR (by_ body))) = b4 at *
  generalize bs (Pm.le 2 body.size) = b5 at *
  generalize bs (Pm.le 4 loc) = b6 at *
  clear HP
  unfold by_ at *
  generalize Vs.crcR body.data.toList = cr at *
  have hcr2 : (cr : Int) < 65536 := by omega
  clear h1 h2 h3
  go_enter Tryz.func120, Tryz.ntmps120
  go_wp2_with fail
  with_reducible refine (L1.out _).mono ?_
  rintro e w2 ⟨rfl, hb⟩
  have HB2 := Lib.hid (hb)
  clear hb
  go_wp2_with fail
  with_reducible refine (L3.out _).mono ?_
  rintro e w3 ⟨rfl, hb⟩
  have HB3 := Lib.hid (HB2.out.trans (hb.mono HB2.out.size))
  clear hb
  go_wp2_with fail
  with_reducible refine (CC.out _).mono ?_
  rintro e w99 ⟨rfl, hw⟩
  subst hw
  go_wp2_with fail
  with_reducible refine (L4.out _).mono ?_
  rintro e w4 ⟨rfl, hb⟩
  have HB4 := Lib.hid (HB3.out.trans (hb.mono HB3.out.size))
  clear hb
  go_wp2_with fail
  with_reducible refine (L5.out _).mono ?_
  rintro e w5 ⟨rfl, hb⟩
  have HB5 := Lib.hid (HB4.out.trans (hb.mono HB4.out.size))
  clear hb
  go_wp2_with fail
  with_reducible refine (L6.out _).mono ?_
  rintro e w6 ⟨rfl, hb⟩
  have HB6 := Lib.hid (HB5.out.trans (hb.mono HB5.out.size))
  clear hb
  go_wp2_with fail
  with_reducible refine (CS.out _).mono ?_
  rintro e w7 ⟨rfl, hb⟩
  have HB7 := Lib.hid (HB6.out.trans (hb.mono HB6.out.size))
  clear hb
  go_wp2_with fail
  go_ret
  rw [HF.out]
  exact ⟨rfl, HB7.out⟩

set_option maxHeartbeats 1600000 in
set_option maxRecDepth 100000 in
/-- masterdiscref31.ranged. -/
theorem r31Ranged_any (id ser loc : Int) (w : World) : Calls Tryz.prog 119 #[.int .i64 id, .int .i64 ser, .int .i64 loc] w fun e w' => e = .returned (.bool (Vs.fit id 2 && (Vs.fit ser 2 && Vs.fit loc 4))) ∧ w = w' := by
  have e2 : ∀ n : Int, Vs.fit n 2 = (decide (0 ≤ n) && decide (n < 65536)) := fun n => rfl
  have e4 : ∀ n : Int, Vs.fit n 4 = (decide (0 ≤ n) && decide (n < 4294967296)) := fun n => rfl
  rw [e2, e2, e4]
  clear e2 e4
  by_cases a1 : 0 ≤ id
  case neg =>
    rw [decide_eq_false a1]
    go_enter Tryz.func119, Tryz.ntmps119
    go_wp2
    go_ret
    exact ⟨rfl, rfl⟩
  rw [decide_eq_true a1]
  by_cases a2 : id < 65536
  case neg =>
    rw [decide_eq_false a2]
    go_enter Tryz.func119, Tryz.ntmps119
    go_wp2
    go_ret
    exact ⟨rfl, rfl⟩
  rw [decide_eq_true a2]
  by_cases a3 : 0 ≤ ser
  case neg =>
    rw [decide_eq_false a3]
    go_enter Tryz.func119, Tryz.ntmps119
    go_wp2
    go_ret
    exact ⟨rfl, rfl⟩
  rw [decide_eq_true a3]
  by_cases a4 : ser < 65536
  case neg =>
    rw [decide_eq_false a4]
    go_enter Tryz.func119, Tryz.ntmps119
    go_wp2
    go_ret
    exact ⟨rfl, rfl⟩
  rw [decide_eq_true a4]
  by_cases a5 : 0 ≤ loc
  case neg =>
    rw [decide_eq_false a5]
    go_enter Tryz.func119, Tryz.ntmps119
    go_wp2
    go_ret
    exact ⟨rfl, rfl⟩
  rw [decide_eq_true a5]
  by_cases a6 : loc < 4294967296
  case neg =>
    rw [decide_eq_false a6]
    go_enter Tryz.func119, Tryz.ntmps119
    go_wp2
    go_ret
    exact ⟨rfl, rfl⟩
  rw [decide_eq_true a6]
  go_enter Tryz.func119, Tryz.ntmps119
  go_wp2
  go_ret
  exact ⟨rfl, rfl⟩

set_option maxHeartbeats 3200000 in
set_option maxRecDepth 100000 in
/-- masterdiscref31.Block. -/
theorem r31Block_any (id ser loc : Int) (body : ByteArray) (w : World) (hb : body.size ≤ 9223372036854775807) :
    Calls Tryz.prog 50 #[.int .i64 id, .int .i64 ser, .int .i64 loc, .string body] w fun e w' => e = .returned (.tuple #[.string (bs (Vs.blockR id ser loc (by_ body)).1), .int .i64 (Vs.blockR id ser loc (by_ body)).2]) ∧ Below w.heap.size w w' := by
  have CR := Lib.hid (fun W => r31Ranged_any id ser loc W)
  cases hr : (Vs.fit id 2 && (Vs.fit ser 2 && Vs.fit loc 4)) with
  | false =>
    rw [Vs.blockR_range (by rw [hr]; decide)]
    rw [hr] at CR
    clear hr
    go_enter Tryz.func50, Tryz.ntmps50
    go_wp2_with fail
    with_reducible refine (CR.out _).mono ?_
    rintro e w2 ⟨rfl, hw⟩
    subst hw
    go_wp2_with fail
    go_ret2
    exact ⟨rfl, Below.refl _ _⟩
  | true =>
  rw [hr] at CR
  rw [Bool.and_eq_true, Bool.and_eq_true, Vs.fit_iff, Vs.fit_iff, Vs.fit_iff] at hr
  obtain ⟨⟨p0, p1⟩, ⟨q0, q1⟩, r0, r1⟩ := hr
  obtain ⟨id, rfl⟩ := Int.eq_ofNat_of_zero_le p0
  obtain ⟨ser, rfl⟩ := Int.eq_ofNat_of_zero_le q0
  obtain ⟨loc, rfl⟩ := Int.eq_ofNat_of_zero_le r0
  by_cases hl : 2032 < body.size
  · have hbr : Vs.blockR id ser loc (by_ body) = ([], 7) := by
      have e : Vs.sealR id ser loc (by_ body) 2032 = ([], 7) := by
        unfold Vs.sealR
        rw [if_pos (by rw [Bool.and_eq_true, Bool.and_eq_true, Vs.fit_iff, Vs.fit_iff, Vs.fit_iff]; exact ⟨⟨p0, p1⟩, ⟨q0, q1⟩, r0, r1⟩), if_pos (by rw [Vs.by_len]; exact hl)]
      unfold Vs.blockR
      rw [e]
      rfl
    rw [hbr]
    have d1 : decide ((2032 : Int) < (body.size : Int)) = true := decide_eq_true (by omega)
    clear hbr p0 p1 q0 q1 r0 r1
    go_enter Tryz.func50, Tryz.ntmps50
    go_wp2_with fail
    with_reducible refine (CR.out _).mono ?_
    rintro e w2 ⟨rfl, hw⟩
    subst hw
    go_wp2_with fail
    go_ret2
    exact ⟨rfl, Below.refl _ _⟩
  · have d1 : decide ((2032 : Int) < (body.size : Int)) = false := decide_eq_false (by omega)
    have hbr : Vs.blockR id ser loc (by_ body) = (Vs.blk id ser loc (by_ body), 0) := Vs.blockR_ok (by omega) (by omega) (by omega) (by rw [Vs.by_len]; omega)
    have CM := Lib.hid (fun W => r31Make_any id ser loc body W (by omega) (by omega) (by omega) (by omega))
    have hle : (Vs.tagR id ser loc (by_ body) ++ by_ body).length = 16 + body.size := by rw [List.length_append, Vs.tagR_len, Vs.by_len]
    have CP := Lib.hid (fun W => rPad_any (Vs.tagR id ser loc (by_ body) ++ by_ body) 2048 (by omega) (by omega) W)
    have hpd : (Vs.tagR id ser loc (by_ body) ++ by_ body) ++ List.replicate (2048 - (Vs.tagR id ser loc (by_ body) ++ by_ body).length) 0 = Vs.blk id ser loc (by_ body) := by
      rw [hle, List.append_assoc, show 2048 - (16 + body.size) = 2032 - (by_ body).length by rw [Vs.by_len]; omega]
      rfl
    rw [hpd] at CP
    rw [hbr]
    change Hid (∀ W : World, Calls Tryz.prog 51 #[.string (bs (Vs.tagR id ser loc (by_ body) ++ by_ body)), .int .i64 2048] W fun e w' => e = .returned (.string (bs (Vs.blk id ser loc (by_ body)))) ∧ Below W.heap.size W w') at CP
    simp only []
    clear hbr hpd hle p0 p1 q0 q1 r0 r1
    generalize bs (Vs.tagR id ser loc (by_ body) ++ by_ body) = mk at *
    generalize bs (Vs.blk id ser loc (by_ body)) = bl at *
    go_enter Tryz.func50, Tryz.ntmps50
    go_wp2_with fail
    with_reducible refine (CR.out _).mono ?_
    rintro e w2 ⟨rfl, hw⟩
    subst hw
    go_wp2_with fail
    with_reducible refine (CM.out _).mono ?_
    rintro e w3 ⟨rfl, hb3⟩
    go_wp2_with fail
    with_reducible refine (CP.out _).mono ?_
    rintro e w4 ⟨rfl, hb4⟩
    go_wp2_with fail
    go_ret2
    exact ⟨rfl, hb3.trans (hb4.mono hb3.size)⟩
end Go.Proofs.YthkppbimkjmbnaaGreatDoor

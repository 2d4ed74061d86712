/-
  The walks through udftag.seal and Block.
-/
import Derived.Test.YthkppbimkjmbnaaGreatDoorZF
namespace Go.Proofs.YthkppbimkjmbnaaGreatDoor
open Go.RowKit
open Vs (bs by_)
namespace Vs
/-- A tag whose checksum is 0. -/
def tag0 (id ser loc : Nat) (body : List UInt8) : List UInt8 := tagH id ++ (0 :: tagE ser loc body)
theorem tag0_len (id ser loc : Nat) (body : List UInt8) : (tag0 id ser loc body).length = 16 := by simp [tag0, tagH_len, tagE_len]
theorem tag0_sum (id ser loc : Nat) (body : List UInt8) : sl (tag0 id ser loc body) 0 4 ++ (UInt8.ofNat (sumT (tag0 id ser loc body)) :: (tag0 id ser loc body).drop 5) = tagR id ser loc body := by
  have e1 : sl (tag0 id ser loc body) 0 4 = tagH id := hd (tagH_len id)
  have e2 : sl (tag0 id ser loc body) 5 11 = tagE ser loc body := by
    unfold tag0
    refine sk (p := tagH id) (b := 1) (tagH_len id) rfl ?_
    exact sk (p := [0]) (q := tagE ser loc body) (b := 0) rfl rfl (tl (tagE_len _ _ _))
  have e3 : (tag0 id ser loc body).drop 5 = tagE ser loc body := by
    unfold tag0
    rw [List.drop_append, List.drop_eq_nil_of_le (by rw [tagH_len]; decide), tagH_len]
    rfl
  unfold sumT
  rw [e1, e2, e3]
  rfl
theorem tag0_parts (id ser loc : Nat) (body : List UInt8) : bs (Pm.le 2 id) ++ bs (Pm.le 2 3) ++ ⟨#[0, 0]⟩ ++ bs (Pm.le 2 ser) ++ bs (Pm.le 2 (crcR body)) ++ bs (Pm.le 2 body.length) ++ bs (Pm.le 4 loc) = bs (tag0 id ser loc body) := by
  rw [show (⟨#[0, 0]⟩ : ByteArray) = bs [0, 0] from rfl]
  rw [bs_app, bs_app, bs_app, bs_app, bs_app, bs_app]
  refine congrArg bs ?_
  unfold tag0 tagH tagE
  simp only [List.append_assoc, List.cons_append, List.nil_append]
theorem fit_nat {n k : Nat} (h : n < 256 ^ k) : fit (n : Int) k = true := by
  rw [fit_iff]
  exact ⟨Int.natCast_nonneg _, Int.lt_of_lt_of_le (Int.ofNat_lt.2 h) (by rw [Int.natCast_pow]; exact Int.le_refl _)⟩
end Vs

set_option maxHeartbeats 6400000 in
set_option maxRecDepth 100000 in
/-- udftag.seal of a block. -/
theorem seal_any (id ser loc : Int) (body : ByteArray) (w : World) (hb : body.size ≤ 9223372036854775807) :
    Calls Tryz.prog 117 #[.int .i64 id, .int .i64 ser, .int .i64 loc, .string body, .int .i64 2032] w fun e w' => e = .returned (.tuple #[.string (bs (Vs.sealR id ser loc (by_ body) 2032).1), .int .i64 (Vs.sealR id ser loc (by_ body) 2032).2]) ∧ Below w.heap.size w w' := by
  have C1 := Lib.hid (fun W => tFits_any id 2 2 rfl (by omega) W)
  have C2 := Lib.hid (fun W => tFits_any ser 2 2 rfl (by omega) W)
  have C3 := Lib.hid (fun W => tFits_any loc 4 4 rfl (by omega) W)
  have HR := Lib.hid (show Vs.sealR id ser loc (by_ body) 2032 = if (Vs.fit id 2 && (Vs.fit ser 2 && Vs.fit loc 4)) = true then (if 2032 < (by_ body).length then ([], 7) else (Vs.tagR id.toNat ser.toNat loc.toNat (by_ body) ++ by_ body, 0)) else ([], 2) from rfl)
  rw [Vs.by_len] at HR
  cases h1 : Vs.fit id 2 with
  | false =>
    rw [h1] at C1
    rw [HR.out.trans (if_neg (by rw [h1]; simp))]
    clear h1 HR C2 C3
    go_enter Tryz.func117, Tryz.ntmps117
    go_wp2_with fail
    with_reducible refine (C1.out _).mono ?_
    rintro e w2 ⟨rfl, rfl⟩
    go_wp2_with fail
    go_ret2
    exact ⟨rfl, Below.refl _ _⟩
  | true =>
  rw [h1] at C1
  cases h2 : Vs.fit ser 2 with
  | false =>
    rw [h2] at C2
    rw [HR.out.trans (if_neg (by rw [h2]; simp))]
    clear h1 h2 HR C3
    go_enter Tryz.func117, Tryz.ntmps117
    go_wp2_with fail
    with_reducible refine (C1.out _).mono ?_
    rintro e w2 ⟨rfl, rfl⟩
    go_wp2_with fail
    with_reducible refine (C2.out _).mono ?_
    rintro e w2 ⟨rfl, rfl⟩
    go_wp2_with fail
    go_ret2
    exact ⟨rfl, Below.refl _ _⟩
  | true =>
  rw [h2] at C2
  cases h3 : Vs.fit loc 4 with
  | false =>
    rw [h3] at C3
    rw [HR.out.trans (if_neg (by rw [h3]; simp))]
    clear h1 h2 h3 HR
    go_enter Tryz.func117, Tryz.ntmps117
    go_wp2_with fail
    with_reducible refine (C1.out _).mono ?_
    rintro e w2 ⟨rfl, rfl⟩
    go_wp2_with fail
    with_reducible refine (C2.out _).mono ?_
    rintro e w2 ⟨rfl, rfl⟩
    go_wp2_with fail
    with_reducible refine (C3.out _).mono ?_
    rintro e w2 ⟨rfl, rfl⟩
    go_wp2_with fail
    go_ret2
    exact ⟨rfl, Below.refl _ _⟩
  | true =>
  rw [h3] at C3
  have HR1 := Lib.hid (HR.out.trans (if_pos (by rw [h1, h2, h3]; rfl)))
  by_cases hl : 2032 < body.size
  · have d1 : decide ((2032 : Int) < (body.size : Int)) = true := decide_eq_true (by omega)
    rw [HR1.out.trans (if_pos hl)]
    clear h1 h2 h3 HR HR1
    go_enter Tryz.func117, Tryz.ntmps117
    go_wp2_with fail
    with_reducible refine (C1.out _).mono ?_
    rintro e w2 ⟨rfl, rfl⟩
    go_wp2_with fail
    with_reducible refine (C2.out _).mono ?_
    rintro e w2 ⟨rfl, rfl⟩
    go_wp2_with fail
    with_reducible refine (C3.out _).mono ?_
    rintro e w2 ⟨rfl, rfl⟩
    go_wp2_with fail
    go_ret2
    exact ⟨rfl, Below.refl _ _⟩
  · have d1 : decide ((2032 : Int) < (body.size : Int)) = false := decide_eq_false (by omega)
    have hl2 : (body.size : Int) ≤ 2032 := by omega
    have hcr := Vs.crcR_lt (by_ body)
    have L1 := Lib.hid (fun W => tLittle_any id 2 2 rfl (by unfold Pm.Sz; omega) W)
    have L2 := Lib.hid (fun W => tLittle_any 3 2 2 rfl (by unfold Pm.Sz; omega) W)
    have L3 := Lib.hid (fun W => tLittle_any ser 2 2 rfl (by unfold Pm.Sz; omega) W)
    have L4 := Lib.hid (fun W => tLittle_any (Vs.crcR (by_ body) : Nat) 2 2 rfl (by unfold Pm.Sz; omega) W)
    have L5 := Lib.hid (fun W => tLittle_any (body.size : Nat) 2 2 rfl (by unfold Pm.Sz; omega) W)
    have L6 := Lib.hid (fun W => tLittle_any loc 4 4 rfl (by unfold Pm.Sz; omega) W)
    rw [Vs.leR_fit h1] at L1
    rw [Vs.leR_fit (by decide)] at L2
    rw [Vs.leR_fit h2] at L3
    rw [Vs.leR_fit (Vs.fit_nat (by omega)), Int.toNat_natCast] at L4
    rw [Vs.leR_fit (Vs.fit_nat (by omega)), Int.toNat_natCast] at L5
    rw [Vs.leR_fit h3] at L6
    have HP := Lib.hid (Vs.tag0_parts id.toNat ser.toNat loc.toNat (by_ body))
    rw [Vs.by_len] at HP
    have CC := Lib.hid (fun W => crc16_any body W hb)
    have CS := Lib.hid (fun W => summed_any (bs (Vs.tag0 id.toNat ser.toNat loc.toNat (by_ body))) (by rw [Vs.bs_size, Vs.tag0_len]; decide) (by rw [Vs.bs_size, Vs.tag0_len]; decide) W)
    rw [Vs.by_bs, Vs.tag0_sum] at CS
    rw [HR1.out.trans (if_neg hl)]
    rw [← HP.out] at CS
    have HF := Lib.hid (show bs (Vs.tagR id.toNat ser.toNat loc.toNat (by_ body)) ++ body = bs (Vs.tagR id.toNat ser.toNat loc.toNat (by_ body) ++ by_ body) by rw [← Vs.bs_app, Vs.bs_by])
    simp only []
    clear h1 h2 h3 HR HR1 HP
    rw [show Int.toNat 3 = 3 from rfl] at L2
    have z1 : (bs (Pm.le 2 id.toNat)).size ≤ 2 := by rw [Vs.bs_size, Pm.le_len]; decide
    have z2 : (bs (Pm.le 2 3)).size ≤ 2 := by rw [Vs.bs_size, Pm.le_len]; decide
    have z3 : (bs (Pm.le 2 ser.toNat)).size ≤ 2 := by rw [Vs.bs_size, Pm.le_len]; decide
    have z4 : (bs (Pm.le 2 (Vs.crcR (by_ body)))).size ≤ 2 := by rw [Vs.bs_size, Pm.le_len]; decide
    have z5 : (bs (Pm.le 2 body.size)).size ≤ 2 := by rw [Vs.bs_size, Pm.le_len]; decide
    have z6 : (bs (Pm.le 4 loc.toNat)).size ≤ 4 := by rw [Vs.bs_size, Pm.le_len]; decide
    have z7 : (bs (Vs.tagR id.toNat ser.toNat loc.toNat (by_ body))).size ≤ 16 := by rw [Vs.bs_size, Vs.tagR_len]; decide
    generalize bs (Vs.tagR id.toNat ser.toNat loc.toNat (by_ body) ++ by_ body) = res at *
    generalize bs (Vs.tagR id.toNat ser.toNat loc.toNat (by_ body)) = tg at *
    generalize bs (Pm.le 2 id.toNat) = b1 at *
    generalize bs (Pm.le 2 3) = b2 at *
    generalize bs (Pm.le 2 ser.toNat) = b3 at *
    generalize bs (Pm.le 2 (Vs.crcR (by_ body))) = b4 at *
    generalize bs (Pm.le 2 body.size) = b5 at *
    generalize bs (Pm.le 4 loc.toNat) = b6 at *
    unfold by_ at *
    generalize Vs.crcR body.data.toList = cr at *
    have hcr2 : (cr : Int) < 65536 := by omega
    go_enter Tryz.func117, Tryz.ntmps117
    go_wp2_with fail
    with_reducible refine (C1.out _).mono ?_
    rintro e w2 ⟨rfl, rfl⟩
    go_wp2_with fail
    with_reducible refine (C2.out _).mono ?_
    rintro e w2 ⟨rfl, rfl⟩
    go_wp2_with fail
    with_reducible refine (C3.out _).mono ?_
    rintro e w2 ⟨rfl, rfl⟩
    go_wp2_with fail
    with_reducible refine (L1.out _).mono ?_
    rintro e w2 ⟨rfl, hb2⟩
    go_wp2_with fail
    with_reducible refine (L2.out _).mono ?_
    rintro e w3 ⟨rfl, hb3⟩
    have HB3 := Lib.hid (hb2.trans (hb3.mono hb2.size))
    clear hb2 hb3
    go_wp2_with fail
    with_reducible refine (L3.out _).mono ?_
    rintro e w4 ⟨rfl, hb4⟩
    have HB4 := Lib.hid (HB3.out.trans (hb4.mono HB3.out.size))
    clear hb4
    go_wp2_with fail
    with_reducible refine (CC.out _).mono ?_
    rintro e w5 ⟨rfl, hb5⟩
    have HB5 := Lib.hid (HB4.out.trans (hb5.mono HB4.out.size))
    clear hb5
    go_wp2_with fail
    with_reducible refine (L4.out _).mono ?_
    rintro e w6 ⟨rfl, hb6⟩
    have HB6 := Lib.hid (HB5.out.trans (hb6.mono HB5.out.size))
    clear hb6
    go_wp2_with fail
    with_reducible refine (L5.out _).mono ?_
    rintro e w7 ⟨rfl, hb7⟩
    have HB7 := Lib.hid (HB6.out.trans (hb7.mono HB6.out.size))
    clear hb7
    go_wp2_with fail
    with_reducible refine (L6.out _).mono ?_
    rintro e w8 ⟨rfl, hb8⟩
    have HB8 := Lib.hid (HB7.out.trans (hb8.mono HB7.out.size))
    clear hb8
    go_wp2_with fail
    with_reducible refine (CS.out _).mono ?_
    rintro e w9 ⟨rfl, hb9⟩
    have HB9 := Lib.hid (HB8.out.trans (hb9.mono HB8.out.size))
    clear hb9
    go_wp2_with fail
    go_ret2
    rw [HF.out]
    exact ⟨rfl, HB9.out⟩

set_option maxHeartbeats 3200000 in
set_option maxRecDepth 100000 in
/-- udftag.Block. -/
theorem block_any (id ser loc : Int) (body : ByteArray) (w : World) (hb : body.size ≤ 9223372036854775807) :
    Calls Tryz.prog 44 #[.int .i64 id, .int .i64 ser, .int .i64 loc, .string body] w fun e w' => e = .returned (.tuple #[.string (bs (Vs.blockR id ser loc (by_ body)).1), .int .i64 (Vs.blockR id ser loc (by_ body)).2]) ∧ Below w.heap.size w w' := by
  have CS := Lib.hid (fun W => seal_any id ser loc body W hb)
  have HR := Lib.hid (show Vs.blockR id ser loc (by_ body) = if (Vs.sealR id ser loc (by_ body) 2032).2 = 0 then ((Vs.sealR id ser loc (by_ body) 2032).1 ++ Vs.z (2048 - (Vs.sealR id ser loc (by_ body) 2032).1.length), 0) else ([], (Vs.sealR id ser loc (by_ body) 2032).2) from rfl)
  by_cases h : (Vs.sealR id ser loc (by_ body) 2032).2 = 0
  · have hl : (Vs.sealR id ser loc (by_ body) 2032).1.length ≤ 2048 := by
      unfold Vs.sealR
      split
      · split
        · decide
        · rename_i h2
          rw [List.length_append, Vs.tagR_len]
          omega
      · decide
    rw [HR.out.trans (if_pos h)]
    rw [h] at CS
    clear HR h
    generalize (Vs.sealR id ser loc (by_ body) 2032).1 = s at *
    have HS := Lib.hid (show bs s ++ bs (List.replicate ((2048 : Int) - (s.length : Int)).toNat 0) = bs (s ++ Vs.z (2048 - s.length)) by
      rw [Vs.bs_app]
      unfold Vs.z
      rw [show ((2048 : Int) - (s.length : Int)).toNat = 2048 - s.length by omega])
    have CZ := Lib.hid (fun W => zeros_any ((2048 : Int) - (s.length : Int)) (by omega) (by omega) W)
    have hsz := Vs.bs_size s
    have HSZ := Lib.hid hsz
    rw [← hsz] at CZ HS hl
    simp only []
    rw [show (⟨(List.replicate ((2048 : Int) - ((bs s).size : Int)).toNat 0).toArray⟩ : ByteArray) = bs (List.replicate ((2048 : Int) - ((bs s).size : Int)).toNat 0) from rfl] at CZ
    rw [← hsz]
    clear hsz HSZ
    have hzs : (bs (List.replicate ((2048 : Int) - ((bs s).size : Int)).toNat 0)).size ≤ 2048 := by rw [Vs.bs_size, List.length_replicate]; omega
    generalize bs (s ++ Vs.z (2048 - (bs s).size)) = res at *
    generalize bs (List.replicate ((2048 : Int) - ((bs s).size : Int)).toNat 0) = zs at *
    generalize bs s = t at *
    have ht : (t.size : Int) ≤ 2048 := by omega
    go_enter Tryz.func44, Tryz.ntmps44
    go_wp2_with fail
    with_reducible refine (CS.out _).mono ?_
    rintro e w2 ⟨rfl, hb2⟩
    go_wp2_with fail
    with_reducible refine (CZ.out _).mono ?_
    rintro e w3 ⟨rfl, hb3⟩
    go_wp2_with fail
    go_ret2
    rw [HS.out]
    exact ⟨rfl, hb2.trans (hb3.mono hb2.size)⟩
  · have hne : ((Vs.sealR id ser loc (by_ body) 2032).2 != 0) = true := by rw [bne_iff_ne]; exact h
    have hne2 : ((Vs.sealR id ser loc (by_ body) 2032).2 == 0) = false := by rw [beq_eq_false_iff_ne]; exact h
    rw [HR.out.trans (if_neg h)]
    clear HR h
    generalize (Vs.sealR id ser loc (by_ body) 2032).1 = s at *
    generalize (Vs.sealR id ser loc (by_ body) 2032).2 = er at *
    go_enter Tryz.func44, Tryz.ntmps44
    go_wp2_with fail
    with_reducible refine (CS.out _).mono ?_
    rintro e w2 ⟨rfl, hb2⟩
    go_wp2_with fail
    go_ret2
    exact ⟨rfl, hb2⟩
end Go.Proofs.YthkppbimkjmbnaaGreatDoor

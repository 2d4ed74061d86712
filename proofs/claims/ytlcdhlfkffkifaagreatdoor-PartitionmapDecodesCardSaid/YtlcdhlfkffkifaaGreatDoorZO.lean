/-
  What the walks through the reference's bytes of a map lean on.
-/
import Derived.Test.YtlcdhlfkffkifaaGreatDoorZL
import Derived.Test.YtlcdhlfkffkifaaGreatDoorZB
import Derived.Test.YtlcdhlfkffkifaaGreatDoorZC
import Derived.Test.YtlcdhlfkffkifaaGreatDoorZK
import Derived.Deep.RegionHeld3
namespace Go.Proofs.YtlcdhlfkffkifaaGreatDoor
open Go.RowKit
namespace Pm
/-- The numbers of a list, four bytes each. -/
def flatL (ts : List Int) : List UInt8 := ts.flatMap fun t => le 4 t.toNat
theorem flatL_len (ts : List Int) : (flatL ts).length = 4 * ts.length := flat_len ts
theorem flatL_snoc (ts : List Int) (j : Nat) (h : j < ts.length) : flatL (ts.take (j + 1)) = flatL (ts.take j) ++ le 4 (ts.getD j 0).toNat := by
  unfold flatL
  rw [List.take_succ_eq_append_getElem h, List.flatMap_append]
  simp [List.getD, h]
end Pm
/-- masterdiscref01.Bytes of a number that is not negative. -/
theorem rBytesI (n : Int) (k : Nat) (K : Int) (hK : K = (k : Int)) (h0 : 0 ≤ n) (h1 : n ≤ 9223372036854775807) (hk : k ≤ 4096) (w : World) :
    Calls Tryz.prog 55 #[.int .i64 n, .int .i64 K] w fun e w' => e = .returned (.string ⟨(Pm.le k n.toNat).toArray⟩) ∧ Below w.heap.size w w' := by
  subst hK
  obtain ⟨n, rfl⟩ := Int.eq_ofNat_of_zero_le h0
  rw [Int.toNat_natCast]
  exact rBytes_any n k hk (by omega) w

set_option maxHeartbeats 1600000 in
set_option maxRecDepth 100000 in
/-- masterdiscref37.names. -/
theorem names_any (w : World) : Calls Tryz.prog 57 #[] w fun e w' => e = .returned (.slice (some ⟨w.heap.size, 0, none⟩) 3 3) ∧ w.alloc (.cells #[.string ⟨Pm.nameV.toArray⟩, .string ⟨Pm.nameS.toArray⟩, .string ⟨Pm.nameM.toArray⟩] 9) = w' := by
  go_enter Tryz.func57, Tryz.ntmps57
  go_wp2
  go_ret
  exact ⟨rfl, rfl⟩
end Go.Proofs.YtlcdhlfkffkifaaGreatDoor

/-
  The walk through the reference's bytes of a map: one kind.
-/
namespace Go.Proofs.YtlcdhlfkffkifaaGreatDoor
open Go.RowKit

set_option maxHeartbeats 6400000 in
set_option maxRecDepth 100000 in
/-- masterdiscref37.bytes, one kind. -/
theorem rBytes_k0 (x : Pm.M) (tv : Value) (w : World) (hr : Kit.RowS w tv (Kit.izs x.tables)) (hv : Pm.valid x = true) (hk : x.kind = 0) :
    Calls Tryz.prog 30 #[Pm.pmV x tv] w fun e w' => e = .returned (.string ⟨(Pm.bytes x).toArray⟩) ∧ Below w.heap.size w w' := by
  have hn := Pm.valid_number hv
  have hR : Pm.bytes x = [1, 6, 1, 0] ++ Pm.le 2 x.number.toNat := by
    unfold Pm.bytes
    rw [if_pos hk]
    rfl
  have HR := Lib.hid hR
  have C2 := Lib.hid (fun W => rBytesI x.number 2 2 rfl hn.1 (by omega) (by decide) W)
  have hl2 := Nat.le_of_eq (Pm.le_len 2 x.number.toNat)
  clear hR hv
  generalize Pm.bytes x = bx at *
  unfold Pm.pmV
  obtain ⟨k, n, t, f, m, b⟩ := x
  simp only [] at *
  subst hk
  obtain ⟨⟨A, c, rfl, hlc, hcm, _⟩, _⟩ := hr
  clear hn hlc hcm
  generalize Pm.le 2 n.toNat = l2 at *
  go_enter Tryz.func30, Tryz.ntmps30
  go_wp2_with fail
  with_reducible refine (C2.out _).mono ?_
  rintro e w2 ⟨rfl, hb2⟩
  go_wp2_with fail
  go_ret
  refine ⟨?_, ((Below.refl _ w).alloc (Nat.le_refl _) _).trans (hb2.mono (by simp))⟩
  rw [HR.out]
  exact congrArg (fun s => Ending.returned (.string s)) (Kit.append_mk [1, 6, 1, 0] l2)
end Go.Proofs.YtlcdhlfkffkifaaGreatDoor

/-
  The walk through the reference's bytes of a map: one kind.
-/
namespace Go.Proofs.YtlcdhlfkffkifaaGreatDoor
open Go.RowKit

set_option maxHeartbeats 6400000 in
set_option maxRecDepth 100000 in
/-- masterdiscref37.bytes, one kind. -/
theorem rBytes_k1 (x : Pm.M) (tv : Value) (w : World) (hr : Kit.RowS w tv (Kit.izs x.tables)) (hv : Pm.valid x = true) (hk : x.kind = 1) :
    Calls Tryz.prog 30 #[Pm.pmV x tv] w fun e w' => e = .returned (.string ⟨(Pm.bytes x).toArray⟩) ∧ Below w.heap.size w w' := by
  have hn := Pm.valid_number hv
  have hbl := Pm.big_len hv (by omega)
  have hbo := Pm.body_len hv
  have hR : Pm.bytes x = Pm.big x ++ List.replicate (64 - (Pm.big x).length) 0 := by
    unfold Pm.bytes
    rw [if_neg (by omega)]
  have hN : Cs.entR (Pm.nameOf x.kind) [1, 2] = (Cs.entB (Pm.nameOf x.kind) [1, 2], 0) := Cs.entR_ok (Pm.name_id (by omega)) (by decide)
  have hNl := Cs.idR_len (Pm.name_id (k := x.kind) (by omega))
  have hEl := Cs.entB_len (i := Pm.nameOf x.kind) (s := [1, 2]) hNl.2 (by decide)
  have cE := fun W => rEntity_any ⟨(Pm.nameOf x.kind).toArray⟩ ⟨#[1, 2]⟩ W (by rw [lb_size]; omega) (by decide)
  rw [show ((⟨(Pm.nameOf x.kind).toArray⟩ : ByteArray).data.toList) = Pm.nameOf x.kind by simp, show ((⟨#[1, 2]⟩ : ByteArray).data.toList) = [1, 2] from rfl, hN] at cE
  have hB : Pm.big x = [2, 64, 0, 0] ++ Cs.entB (Pm.nameOf x.kind) [1, 2] ++ [1, 0] ++ Pm.le 2 x.number.toNat := by
    unfold Pm.big Pm.body
    rw [if_neg (by omega), if_neg (by omega), List.append_nil]
    rfl
  have HR := Lib.hid hR
  have HB := Lib.hid hB
  have CE := Lib.hid cE
  have C2 := Lib.hid (fun W => rBytesI x.number 2 2 rfl hn.1 (by omega) (by decide) W)
  have hl2 := Nat.le_of_eq (Pm.le_len 2 x.number.toNat)
  have HGX := Lib.hid (show (Pm.big x).length ≤ 64 by omega)
  have CP := Lib.hid (fun W => rPad_any (Pm.big x) 64 (by decide) (by omega) W)
  clear hR hB cE hv hN
  generalize Pm.bytes x = bx at *
  generalize Pm.big x = gx at *
  generalize Cs.entB (Pm.nameOf x.kind) [1, 2] = eb at *
  have hNN : Pm.nameOf x.kind = Pm.nameV := by rw [hk]; rfl
  rw [hNN] at *
  clear hNN
  unfold Pm.pmV
  obtain ⟨k, n, t, f, m, b⟩ := x
  simp only [] at *
  subst hk
  have HRow := Lib.hid hr
  obtain ⟨⟨A, c, rfl, hlc, hcm, _⟩, _⟩ := hr
  rw [Kit.izs_length] at *
  unfold maxLen at hcm
  clear hn hNl
  clear hlc hcm HRow
  generalize Pm.le 2 n.toNat = l2 at *
  go_enter Tryz.func30, Tryz.ntmps30
  go_wp2_with fail
  go_region_with (first | (go_at_call 57; refine (names_any _).mono ?_; rintro e w2 ⟨rfl, rfl⟩) | (go_at_call 56; refine (CE.out _).mono ?_; rintro e w3 ⟨rfl, hb3⟩))
  all_goals
    have hcw : Below w.heap.size w w3 := ((((Below.refl w.heap.size w).alloc (Nat.le_refl _) _).alloc (by simp) _).drew).trans (hb3.mono (B' := w.heap.size) (by simp <;> omega))
    have hbx : ∀ j u, (#[.int .i64 1, .int .i64 n, .slice A t.length c, .int .i64 f, .int .i64 m, .int .i64 b] : Array Value)[j]? = some u → w3.cell? ⟨w.heap.size, j, none⟩ = some u := fun j u hu => by
      refine (hb3.cell (p := ⟨w.heap.size, j, none⟩) (by simp <;> omega)).trans ?_
      refine ((((Below.refl (w.heap.size + 1) (w.alloc (.cells #[.int .i64 1, .int .i64 n, .slice A t.length c, .int .i64 f, .int .i64 m, .int .i64 b] 59))).alloc (by simp) _).drew).cell (p := ⟨w.heap.size, j, none⟩) (by simp)).trans ?_
      rw [World.cell?_alloc_at _ _ _ _ (by simp)]
      simpa using hu
    have HBX := Lib.hid hbx
    have h3 : w.heap.size < w3.heap.size := World.block_lt_of_cell? _ _ (hbx 0 _ rfl)
    have c0 := hbx 0 _ rfl
    have c1 := hbx 1 _ rfl
    clear hb3 hbx
    go_wp2_with fail
    with_reducible refine (C2.out _).mono ?_
    rintro e w4 ⟨rfl, hb4⟩
    have hc4 := hcw.trans (hb4.mono (Nat.le_of_lt h3))
    have HX4 := Lib.hid (fun j u hu => (hb4.cell (p := ⟨w.heap.size, j, none⟩) h3).trans (HBX.out j u hu))
    have h4 : w.heap.size < w4.heap.size := Nat.lt_of_lt_of_le h3 hb4.size
    clear c0 c1 hb4 hcw HBX h3
    have c0 := HX4.out 0 _ rfl
    go_wp2_with fail
    have hcat : (⟨#[2, 64, 0, 0]⟩ : ByteArray) ++ ⟨eb.toArray⟩ ++ ⟨#[1, 0]⟩ ++ ⟨l2.toArray⟩ = ⟨gx.toArray⟩ := by
      rw [HB.out, show (⟨#[2, 64, 0, 0]⟩ : ByteArray) = ⟨([2, 64, 0, 0] : List UInt8).toArray⟩ from rfl, show (⟨#[1, 0]⟩ : ByteArray) = ⟨([1, 0] : List UInt8).toArray⟩ from rfl]
      try rw [show (⟨#[8, 0, 0, 0, 8, 0, 1]⟩ : ByteArray) = ⟨([8, 0, 0, 0, 8, 0, 1] : List UInt8).toArray⟩ from rfl]
      simp only [Kit.append_mk]
    rw [hcat]
    clear hcat hbo hbl
    refine (CP.out _).mono ?_
    rintro e w8 ⟨rfl, hb8⟩
    go_wp2_with fail
    go_ret
    rw [HR.out]
    exact ⟨rfl, hc4.trans (hb8.mono hc4.size)⟩
end Go.Proofs.YtlcdhlfkffkifaaGreatDoor

/-
  The walk through the reference's bytes of a map: one kind.
-/
namespace Go.Proofs.YtlcdhlfkffkifaaGreatDoor
open Go.RowKit

set_option maxHeartbeats 6400000 in
set_option maxRecDepth 100000 in
/-- masterdiscref37.bytes, one kind. -/
theorem rBytes_k2 (x : Pm.M) (tv : Value) (w : World) (hr : Kit.RowS w tv (Kit.izs x.tables)) (hv : Pm.valid x = true) (hk : x.kind = 2) :
    Calls Tryz.prog 30 #[Pm.pmV x tv] w fun e w' => e = .returned (.string ⟨(Pm.bytes x).toArray⟩) ∧ Below w.heap.size w w' := by
  have hn := Pm.valid_number hv
  have hbl := Pm.big_len hv (by omega)
  have hbo := Pm.body_len hv
  have hR : Pm.bytes x = Pm.big x ++ List.replicate (64 - (Pm.big x).length) 0 := by
    unfold Pm.bytes
    rw [if_neg (by omega)]
  have hN : Cs.entR (Pm.nameOf x.kind) [1, 2] = (Cs.entB (Pm.nameOf x.kind) [1, 2], 0) := Cs.entR_ok (Pm.name_id (by omega)) (by decide)
  have hNl := Cs.idR_len (Pm.name_id (k := x.kind) (by omega))
  have hEl := Cs.entB_len (i := Pm.nameOf x.kind) (s := [1, 2]) hNl.2 (by decide)
  have cE := fun W => rEntity_any ⟨(Pm.nameOf x.kind).toArray⟩ ⟨#[1, 2]⟩ W (by rw [lb_size]; omega) (by decide)
  rw [show ((⟨(Pm.nameOf x.kind).toArray⟩ : ByteArray).data.toList) = Pm.nameOf x.kind by simp, show ((⟨#[1, 2]⟩ : ByteArray).data.toList) = [1, 2] from rfl, hN] at cE
  have htl := Pm.valid_tables hv
  rw [if_pos hk] at htl
  have hwd := Pm.valid_words hv
  have hB : Pm.big x = [2, 64, 0, 0] ++ Cs.entB (Pm.nameOf x.kind) [1, 2] ++ [1, 0] ++ Pm.le 2 x.number.toNat ++ [8, 0] ++ Pm.le 1 x.tables.length ++ [0] ++ Pm.le 4 120 ++ Pm.flatL x.tables := by
    unfold Pm.big Pm.body Pm.flatL
    rw [if_pos hk, show Pm.le 2 8 = [8, 0] from rfl, show Pm.le 1 0 = [0] from rfl, show Pm.le 2 1 = [1, 0] from rfl]
    simp only [List.append_assoc, List.cons_append, List.nil_append]
  have C3 := Lib.hid (fun W => rBytesI (x.tables.length : Int) 1 1 rfl (by omega) (by omega) (by decide) W)
  have C4 := Lib.hid (fun W => rBytesI 120 4 4 rfl (by decide) (by decide) (by decide) W)
  rw [Int.toNat_natCast] at C3
  have hl3 := Nat.le_of_eq (Pm.le_len 1 x.tables.length)
  have hl4 := Nat.le_of_eq (Pm.le_len 4 120)
  have hl4' : Pm.le 4 (120 : Int).toNat = Pm.le 4 120 := rfl
  rw [hl4'] at C4
  clear hl4'
  have HR := Lib.hid hR
  have HB := Lib.hid hB
  have CE := Lib.hid cE
  have C2 := Lib.hid (fun W => rBytesI x.number 2 2 rfl hn.1 (by omega) (by decide) W)
  have hl2 := Nat.le_of_eq (Pm.le_len 2 x.number.toNat)
  have HGX := Lib.hid (show (Pm.big x).length ≤ 64 by omega)
  have CP := Lib.hid (fun W => rPad_any (Pm.big x) 64 (by decide) (by omega) W)
  clear hR hB cE hv hN
  generalize Pm.bytes x = bx at *
  generalize Pm.big x = gx at *
  generalize Cs.entB (Pm.nameOf x.kind) [1, 2] = eb at *
  have hNN : Pm.nameOf x.kind = Pm.nameS := by rw [hk]; rfl
  rw [hNN] at *
  clear hNN
  unfold Pm.pmV
  obtain ⟨k, n, t, f, m, b⟩ := x
  simp only [] at *
  subst hk
  have HRow := Lib.hid hr
  obtain ⟨⟨A, c, rfl, hlc, hcm, _⟩, _⟩ := hr
  rw [Kit.izs_length] at *
  unfold maxLen at hcm
  clear hn hNl
  generalize Pm.le 2 n.toNat = l2 at *
  generalize Pm.le 1 t.length = l3 at *
  generalize Pm.le 4 120 = l4 at *
  have HWD := Lib.hid hwd
  clear hwd
  go_enter Tryz.func30, Tryz.ntmps30
  go_wp2_with fail
  go_region_with (first | (go_at_call 57; refine (names_any _).mono ?_; rintro e w2 ⟨rfl, rfl⟩) | (go_at_call 56; refine (CE.out _).mono ?_; rintro e w3 ⟨rfl, hb3⟩))
  all_goals
    have hcw : Below w.heap.size w w3 := ((((Below.refl w.heap.size w).alloc (Nat.le_refl _) _).alloc (by simp) _).drew).trans (hb3.mono (B' := w.heap.size) (by simp <;> omega))
    have hbx : ∀ j u, (#[.int .i64 2, .int .i64 n, .slice A t.length c, .int .i64 f, .int .i64 m, .int .i64 b] : Array Value)[j]? = some u → w3.cell? ⟨w.heap.size, j, none⟩ = some u := fun j u hu => by
      refine (hb3.cell (p := ⟨w.heap.size, j, none⟩) (by simp <;> omega)).trans ?_
      refine ((((Below.refl (w.heap.size + 1) (w.alloc (.cells #[.int .i64 2, .int .i64 n, .slice A t.length c, .int .i64 f, .int .i64 m, .int .i64 b] 59))).alloc (by simp) _).drew).cell (p := ⟨w.heap.size, j, none⟩) (by simp)).trans ?_
      rw [World.cell?_alloc_at _ _ _ _ (by simp)]
      simpa using hu
    have HBX := Lib.hid hbx
    have h3 : w.heap.size < w3.heap.size := World.block_lt_of_cell? _ _ (hbx 0 _ rfl)
    have c0 := hbx 0 _ rfl
    have c1 := hbx 1 _ rfl
    clear hb3 hbx
    go_wp2_with fail
    with_reducible refine (C2.out _).mono ?_
    rintro e w4 ⟨rfl, hb4⟩
    have hc4 := hcw.trans (hb4.mono (Nat.le_of_lt h3))
    have HX4 := Lib.hid (fun j u hu => (hb4.cell (p := ⟨w.heap.size, j, none⟩) h3).trans (HBX.out j u hu))
    have h4 : w.heap.size < w4.heap.size := Nat.lt_of_lt_of_le h3 hb4.size
    clear c0 c1 hb4 hcw HBX h3
    have c0 := HX4.out 0 _ rfl
    have c2 := HX4.out 2 _ rfl
    go_wp2_with fail
    with_reducible refine (C3.out _).mono ?_
    rintro e w5 ⟨rfl, hb5⟩
    have hc5 := hc4.trans (hb5.mono hc4.size)
    have HX5 := Lib.hid (fun j u hu => (hb5.cell (p := ⟨w.heap.size, j, none⟩) h4).trans (HX4.out j u hu))
    have h5 : w.heap.size < w5.heap.size := Nat.lt_of_lt_of_le h4 hb5.size
    clear c0 c2 hb5 hc4 HX4 h4
    go_wp2_with fail
    with_reducible refine (C4.out _).mono ?_
    rintro e w6 ⟨rfl, hb6⟩
    have hc6 := hc5.trans (hb6.mono hc5.size)
    have HX6 := Lib.hid (fun j u hu => (hb6.cell (p := ⟨w.heap.size, j, none⟩) h5).trans (HX5.out j u hu))
    have h6 : w.heap.size < w6.heap.size := Nat.lt_of_lt_of_le h5 hb6.size
    clear hb6 hc5 HX5 h5
    have HC6 := Lib.hid hc6
    clear hc6
    go_wp2_with fail
    have hg0 : (⟨#[2, 64, 0, 0]⟩ : ByteArray) ++ ⟨eb.toArray⟩ ++ ⟨#[1, 0]⟩ ++ ⟨l2.toArray⟩ ++ ⟨#[8, 0]⟩ ++ ⟨l3.toArray⟩ ++ ⟨#[0]⟩ ++ ⟨l4.toArray⟩ = ⟨([2, 64, 0, 0] ++ eb ++ [1, 0] ++ l2 ++ [8, 0] ++ l3 ++ [0] ++ l4).toArray⟩ := by
      rw [show (⟨#[2, 64, 0, 0]⟩ : ByteArray) = ⟨([2, 64, 0, 0] : List UInt8).toArray⟩ from rfl, show (⟨#[1, 0]⟩ : ByteArray) = ⟨([1, 0] : List UInt8).toArray⟩ from rfl, show (⟨#[8, 0]⟩ : ByteArray) = ⟨([8, 0] : List UInt8).toArray⟩ from rfl, show (⟨#[0]⟩ : ByteArray) = ⟨([0] : List UInt8).toArray⟩ from rfl]
      simp only [Kit.append_mk]
    rw [hg0]
    clear hg0
    have hgl : ([2, 64, 0, 0] ++ eb ++ [1, 0] ++ l2 ++ [8, 0] ++ l3 ++ [0] ++ l4).length ≤ 48 := by
      simp only [List.length_append, List.length_cons, List.length_nil, hEl]; omega
    have HB' : Hid (gx = ([2, 64, 0, 0] ++ eb ++ [1, 0] ++ l2 ++ [8, 0] ++ l3 ++ [0] ++ l4) ++ Pm.flatL t) := HB.out
    clear HB
    generalize [2, 64, 0, 0] ++ eb ++ [1, 0] ++ l2 ++ [8, 0] ++ l3 ++ [0] ++ l4 = g0 at *
    have HRow6 := Lib.hid (HRow.out.below HC6.out)
    have HFL := Lib.hid Pm.flatL_len
    obtain ⟨ht1, ht4⟩ := htl
    clear hl2 hl3 hl4
    go_loopw [5, 6] (fun ov iv wr => ∃ j : Nat, j ≤ t.length ∧ iv = .int .i64 j ∧ ov = .string ⟨(g0 ++ Pm.flatL (t.take j)).toArray⟩ ∧ Below w6.heap.size w6 wr) (fun _ iv _ => t.length - (intOf iv).toNat)
    case atStart => exact ⟨0, by omega, rfl, by simp [Pm.flatL], Below.refl _ _⟩
    case round =>
      obtain ⟨j, hj, rfl, rfl, hbr⟩ := hrel
      have c2 := (hbr.cell (p := ⟨w.heap.size, 2, none⟩) h6).trans (HX6.out 2 _ rfl)
      by_cases hlt : j < t.length
      · obtain ⟨b', o', c', hv', hbw', hcj⟩ := HRow6.out.1.at_izs hlt
        obtain ⟨rfl, _, rfl⟩ : A = some ⟨b', o', none⟩ ∧ t.length = t.length ∧ c = c' := by simpa using hv'
        clear hv'
        have hcr := (hbr.cell (p := ⟨b', o' + j, none⟩) hbw').trans hcj
        obtain ⟨q0, q1⟩ := HWD.out (t.getD j 0) (by simp [List.getD, hlt])
        have CX := Lib.hid (fun W => rBytesI (t.getD j 0) 4 4 rfl q0 (by omega) (by decide) W)
        have hs1 := Pm.flatL_snoc t j hlt
        have hf1 := HFL.out (t.take j)
        have hf2 := Nat.le_of_eq (Pm.le_len 4 (t.getD j 0).toNat)
        have hf3 : (t.take j).length ≤ 4 := by rw [List.length_take]; omega
        have HS1 := Lib.hid (show g0 ++ Pm.flatL (t.take (j + 1)) = (g0 ++ Pm.flatL (t.take j)) ++ Pm.le 4 (t.getD j 0).toNat by rw [hs1, List.append_assoc])
        have hgo : (g0 ++ Pm.flatL (t.take j)).length ≤ 64 := by rw [List.length_append]; omega
        clear hs1 hf1 hf3 hcj hbw' q0 q1
        generalize g0 ++ Pm.flatL (t.take j) = gj at *
        generalize Pm.le 4 (t.getD j 0).toNat = lx at *
        generalize t.getD j 0 = x at *
        go_wp2_with fail
        with_reducible refine (CX.out _).mono ?_
        rintro e w7 ⟨rfl, hb7⟩
        go_wp2_with fail
        go_roundw
        case rel => exact ⟨j + 1, by omega, by go_num, by rw [HS1.out]; exact congrArg Value.string (Kit.append_mk gj lx), hbr.trans (hb7.mono hbr.size)⟩
        case measure => simp [intOf]; omega
      · obtain rfl : j = t.length := by omega
        rw [List.take_length]
        have hgx : g0 ++ Pm.flatL t = gx := HB'.out.symm
        rw [hgx]
        have c0 := (hbr.cell (p := ⟨w.heap.size, 0, none⟩) h6).trans (HX6.out 0 _ rfl)
        have HC7 := Lib.hid (HC6.out.trans (hbr.mono HC6.out.size))
        clear hgx hbo hbl ht1 ht4 hgl
        have hgxl : gx.length ≤ 64 := HGX.out
        go_wp2_with fail
        refine (CP.out _).mono ?_
        rintro e w8 ⟨rfl, hb8⟩
        go_wp2_with fail
        go_ret
        rw [HR.out]
        exact ⟨rfl, HC7.out.trans (hb8.mono HC7.out.size)⟩
end Go.Proofs.YtlcdhlfkffkifaaGreatDoor

/-
  The walk through the reference's bytes of a map: one kind.
-/
namespace Go.Proofs.YtlcdhlfkffkifaaGreatDoor
open Go.RowKit

set_option maxHeartbeats 6400000 in
set_option maxRecDepth 100000 in
/-- masterdiscref37.bytes, one kind. -/
theorem rBytes_k3 (x : Pm.M) (tv : Value) (w : World) (hr : Kit.RowS w tv (Kit.izs x.tables)) (hv : Pm.valid x = true) (hk : x.kind = 3) :
    Calls Tryz.prog 30 #[Pm.pmV x tv] w fun e w' => e = .returned (.string ⟨(Pm.bytes x).toArray⟩) ∧ Below w.heap.size w w' := by
  have hn := Pm.valid_number hv
  have hbl := Pm.big_len hv (by omega)
  have hbo := Pm.body_len hv
  have hR : Pm.bytes x = Pm.big x ++ List.replicate (64 - (Pm.big x).length) 0 := by
    unfold Pm.bytes
    rw [if_neg (by omega)]
  have hN : Cs.entR (Pm.nameOf x.kind) [1, 2] = (Cs.entB (Pm.nameOf x.kind) [1, 2], 0) := Cs.entR_ok (Pm.name_id (by omega)) (by decide)
  have hNl := Cs.idR_len (Pm.name_id (k := x.kind) (by omega))
  have hEl := Cs.entB_len (i := Pm.nameOf x.kind) (s := [1, 2]) hNl.2 (by decide)
  have cE := fun W => rEntity_any ⟨(Pm.nameOf x.kind).toArray⟩ ⟨#[1, 2]⟩ W (by rw [lb_size]; omega) (by decide)
  rw [show ((⟨(Pm.nameOf x.kind).toArray⟩ : ByteArray).data.toList) = Pm.nameOf x.kind by simp, show ((⟨#[1, 2]⟩ : ByteArray).data.toList) = [1, 2] from rfl, hN] at cE
  obtain ⟨h31, h32, h33⟩ := Pm.valid_three hv
  have hB : Pm.big x = [2, 64, 0, 0] ++ Cs.entB (Pm.nameOf x.kind) [1, 2] ++ [1, 0] ++ Pm.le 2 x.number.toNat ++ Pm.le 4 x.file.toNat ++ Pm.le 4 x.mirror.toNat ++ Pm.le 4 x.bitmap.toNat ++ [8, 0, 0, 0, 8, 0, 1] := by
    unfold Pm.big Pm.body
    rw [if_neg (by omega), if_pos hk, show Pm.le 4 8 = [8, 0, 0, 0] from rfl, show Pm.le 2 8 = [8, 0] from rfl, show Pm.le 1 1 = [1] from rfl, show Pm.le 2 1 = [1, 0] from rfl]
    simp only [List.append_assoc, List.cons_append, List.nil_append]
  have C3 := Lib.hid (fun W => rBytesI x.file 4 4 rfl h31.1 (by omega) (by decide) W)
  have C4 := Lib.hid (fun W => rBytesI x.mirror 4 4 rfl h32.1 (by omega) (by decide) W)
  have C5 := Lib.hid (fun W => rBytesI x.bitmap 4 4 rfl h33.1 (by omega) (by decide) W)
  have hl3 := Nat.le_of_eq (Pm.le_len 4 x.file.toNat)
  have hl4 := Nat.le_of_eq (Pm.le_len 4 x.mirror.toNat)
  have hl5 := Nat.le_of_eq (Pm.le_len 4 x.bitmap.toNat)
  clear h31 h32 h33
  have HR := Lib.hid hR
  have HB := Lib.hid hB
  have CE := Lib.hid cE
  have C2 := Lib.hid (fun W => rBytesI x.number 2 2 rfl hn.1 (by omega) (by decide) W)
  have hl2 := Nat.le_of_eq (Pm.le_len 2 x.number.toNat)
  have HGX := Lib.hid (show (Pm.big x).length ≤ 64 by omega)
  have CP := Lib.hid (fun W => rPad_any (Pm.big x) 64 (by decide) (by omega) W)
  clear hR hB cE hv hN
  generalize Pm.bytes x = bx at *
  generalize Pm.big x = gx at *
  generalize Cs.entB (Pm.nameOf x.kind) [1, 2] = eb at *
  have hNN : Pm.nameOf x.kind = Pm.nameM := by rw [hk]; rfl
  rw [hNN] at *
  clear hNN
  unfold Pm.pmV
  obtain ⟨k, n, t, f, m, b⟩ := x
  simp only [] at *
  subst hk
  have HRow := Lib.hid hr
  obtain ⟨⟨A, c, rfl, hlc, hcm, _⟩, _⟩ := hr
  rw [Kit.izs_length] at *
  unfold maxLen at hcm
  clear hn hNl
  clear hlc hcm HRow
  generalize Pm.le 2 n.toNat = l2 at *
  generalize Pm.le 4 f.toNat = l3 at *
  generalize Pm.le 4 m.toNat = l4 at *
  generalize Pm.le 4 b.toNat = l5 at *
  go_enter Tryz.func30, Tryz.ntmps30
  go_wp2_with fail
  go_region_with (first | (go_at_call 57; refine (names_any _).mono ?_; rintro e w2 ⟨rfl, rfl⟩) | (go_at_call 56; refine (CE.out _).mono ?_; rintro e w3 ⟨rfl, hb3⟩))
  all_goals
    have hcw : Below w.heap.size w w3 := ((((Below.refl w.heap.size w).alloc (Nat.le_refl _) _).alloc (by simp) _).drew).trans (hb3.mono (B' := w.heap.size) (by simp <;> omega))
    have hbx : ∀ j u, (#[.int .i64 3, .int .i64 n, .slice A t.length c, .int .i64 f, .int .i64 m, .int .i64 b] : Array Value)[j]? = some u → w3.cell? ⟨w.heap.size, j, none⟩ = some u := fun j u hu => by
      refine (hb3.cell (p := ⟨w.heap.size, j, none⟩) (by simp <;> omega)).trans ?_
      refine ((((Below.refl (w.heap.size + 1) (w.alloc (.cells #[.int .i64 3, .int .i64 n, .slice A t.length c, .int .i64 f, .int .i64 m, .int .i64 b] 59))).alloc (by simp) _).drew).cell (p := ⟨w.heap.size, j, none⟩) (by simp)).trans ?_
      rw [World.cell?_alloc_at _ _ _ _ (by simp)]
      simpa using hu
    have HBX := Lib.hid hbx
    have h3 : w.heap.size < w3.heap.size := World.block_lt_of_cell? _ _ (hbx 0 _ rfl)
    have c0 := hbx 0 _ rfl
    have c1 := hbx 1 _ rfl
    clear hb3 hbx
    go_wp2_with fail
    with_reducible refine (C2.out _).mono ?_
    rintro e w4 ⟨rfl, hb4⟩
    have hc4 := hcw.trans (hb4.mono (Nat.le_of_lt h3))
    have HX4 := Lib.hid (fun j u hu => (hb4.cell (p := ⟨w.heap.size, j, none⟩) h3).trans (HBX.out j u hu))
    have h4 : w.heap.size < w4.heap.size := Nat.lt_of_lt_of_le h3 hb4.size
    clear c0 c1 hb4 hcw HBX h3
    have c0 := HX4.out 0 _ rfl
    have d3 := fun x : Later w4.heap.size w4 => later_cell x h4 (HX4.out 3 _ rfl)
    have d4 := fun x : Later w4.heap.size w4 => later_cell x h4 (HX4.out 4 _ rfl)
    have d5 := fun x : Later w4.heap.size w4 => later_cell x h4 (HX4.out 5 _ rfl)
    go_wp2_with fail
    refine wp_region_later w4.heap.size (by kernel_rfl) (by kernel_rfl) ?_
    repeat (any_goals (first | go_big_quiet_skip | (go_big_quiet_want; go_big_quiet_op; first | go_big_quiet_on | (apply Exists.intro; refine ⟨fun _ => ?_, ?_⟩; (first | (with_reducible refine Calls.later_of ?_ (C3.out _); simp) | (with_reducible refine Calls.later_of ?_ (C4.out _); simp) | (with_reducible refine Calls.later_of ?_ (C5.out _); simp)); go_big_quiet_on))))
    refine wpQuiet_nil ?_
    intro wq hw'
    obtain ⟨⟨wz, hbq⟩, hw''⟩ := hw'
    subst hw''
    have hc5 := hc4.trans (hbq.mono hc4.size)
    clear d3 d4 d5 c0 HX4 h4 hbq hc4
    go_wp2_with fail
    have hcat : (⟨#[2, 64, 0, 0]⟩ : ByteArray) ++ ⟨eb.toArray⟩ ++ ⟨#[1, 0]⟩ ++ ⟨l2.toArray⟩ ++ ⟨l3.toArray⟩ ++ ⟨l4.toArray⟩ ++ ⟨l5.toArray⟩ ++ ⟨#[8, 0, 0, 0, 8, 0, 1]⟩ = ⟨gx.toArray⟩ := by
      rw [HB.out, show (⟨#[2, 64, 0, 0]⟩ : ByteArray) = ⟨([2, 64, 0, 0] : List UInt8).toArray⟩ from rfl, show (⟨#[1, 0]⟩ : ByteArray) = ⟨([1, 0] : List UInt8).toArray⟩ from rfl]
      try rw [show (⟨#[8, 0, 0, 0, 8, 0, 1]⟩ : ByteArray) = ⟨([8, 0, 0, 0, 8, 0, 1] : List UInt8).toArray⟩ from rfl]
      simp only [Kit.append_mk]
    rw [hcat]
    clear hcat hbo hbl
    refine (CP.out _).mono ?_
    rintro e w8 ⟨rfl, hb8⟩
    go_wp2_with fail
    go_ret
    rw [HR.out]
    exact ⟨rfl, hc5.trans (hb8.mono hc5.size)⟩
end Go.Proofs.YtlcdhlfkffkifaaGreatDoor

/-
  The walk through the reference's Encode.
-/
namespace Go.Proofs.YtlcdhlfkffkifaaGreatDoor
open Go.RowKit

/-- masterdiscref37.bytes. -/
theorem rBytes_map (x : Pm.M) (tv : Value) (w : World) (hr : Kit.RowS w tv (Kit.izs x.tables)) (hv : Pm.valid x = true) :
    Calls Tryz.prog 30 #[Pm.pmV x tv] w fun e w' => e = .returned (.string ⟨(Pm.bytes x).toArray⟩) ∧ Below w.heap.size w w' := by
  have hk := Pm.valid_kind hv
  have : x.kind = 0 ∨ x.kind = 1 ∨ x.kind = 2 ∨ x.kind = 3 := by omega
  rcases this with h | h | h | h
  · exact rBytes_k0 x tv w hr hv h
  · exact rBytes_k1 x tv w hr hv h
  · exact rBytes_k2 x tv w hr hv h
  · exact rBytes_k3 x tv w hr hv h

set_option maxHeartbeats 3200000 in
set_option maxRecDepth 100000 in
/-- masterdiscref37.Encode. -/
theorem rEncode_any (v : Value) (l : List Pm.M) (T : Nat → Value) (w : World) (hm : Pm.MapsAt w v l T) (hf : Pm.Few l) :
    Calls Tryz.prog 12 #[v] w fun e w' => e = .returned (.tuple #[.string ⟨(Pm.encR l).1.toArray⟩, .int .i64 (Pm.encR l).2]) ∧ Below w.heap.size w w' := by
  have CA := Lib.hid (fun W h => rValid_any v l T W h hf)
  have HM := Lib.hid hm
  obtain ⟨A, c, rfl, hlc, hcm, hcells⟩ := hm.row
  have HCE := Lib.hid hcells
  clear hcells hm
  unfold maxLen at hcm
  cases ha : Pm.all l with
  | false =>
    have HR := Lib.hid (show Pm.encR l = ([], 1) by unfold Pm.encR; rw [ha]; rfl)
    rw [ha] at CA
    clear ha hf hlc hcm
    go_enter Tryz.func12, Tryz.ntmps12
    go_wp2_with fail
    with_reducible refine (CA.out _ HM.out).mono ?_
    rintro e w2 ⟨rfl, hb2⟩
    go_wp2_with fail
    go_ret2
    rw [HR.out]
    exact ⟨rfl, hb2⟩
  | true =>
    have HR := Lib.hid (show Pm.encR l = (l.flatMap Pm.bytes, 0) by unfold Pm.encR; rw [ha]; rfl)
    rw [ha] at CA
    unfold Pm.all at ha
    rw [Bool.and_eq_true, decide_eq_true_eq] at ha
    obtain ⟨hl4, hall⟩ := ha
    have HALL := Lib.hid hall
    clear hall hf
    go_enter Tryz.func12, Tryz.ntmps12
    go_wp2_with fail
    with_reducible refine (CA.out _ HM.out).mono ?_
    rintro e w2 ⟨rfl, hb2⟩
    go_wp2_with fail
    go_loopw [4, 5] (fun ov iv wr => ∃ j : Nat, j ≤ l.length ∧ iv = .int .i64 j ∧ ov = .string ⟨((l.take j).flatMap Pm.bytes).toArray⟩ ∧ Below w.heap.size w wr) (fun _ iv _ => l.length - (intOf iv).toNat)
    case atStart => exact ⟨0, by omega, rfl, rfl, hb2⟩
    case round =>
      obtain ⟨j, hj, rfl, rfl, hbw⟩ := hrel
      by_cases hlt : j < l.length
      · obtain ⟨b, o, rfl, hbl, hc⟩ := HCE.out (by omega)
        obtain ⟨c0, c1, c2, c3, c4, c5⟩ := Pm.six hbl hbw (hc j hlt)
        have hr := (HM.out.tabs j hlt).below hbw
        have hv : Pm.valid (l.getD j Pm.none) = true := List.all_eq_true.1 HALL.out _ (by simp [List.getD, hlt])
        have CB := Lib.hid (fun W h => rBytes_map (l.getD j Pm.none) (T j) W h hv)
        have hsn := flat_snoc hlt
        have hle : ((l.take j).flatMap Pm.bytes).length ≤ 256 := by
          have h1 := flat_le (l := l.take j) (by rw [List.all_eq_true]; intro y hy; exact List.all_eq_true.1 HALL.out y (List.mem_of_mem_take hy))
          have h2 : (l.take j).length ≤ 4 := by rw [List.length_take]; omega
          omega
        have hle2 := Pm.bytes_len hv
        have HSN := Lib.hid hsn
        clear hsn hc
        have hle3 : (Pm.bytes (l.getD j Pm.none)).length ≤ 64 := by rw [hle2]; split <;> omega
        clear hle2 hv
        generalize (l.take j).flatMap Pm.bytes = g at *
        generalize l.getD j Pm.none = x at *
        generalize T j = tv at *
        have HRT := Lib.hid hr
        obtain ⟨⟨A', c', rfl, _, _, _⟩, _⟩ := hr
        unfold Pm.pmV at CB
        generalize Pm.bytes x = bx at *
        obtain ⟨k, n, t, f, m, bb⟩ := x
        simp only [] at *
        go_wp2_with fail
        with_reducible refine (CB.out _ HRT.out).mono ?_
        rintro e w3 ⟨rfl, hb3⟩
        have HB3 := Lib.hid (hbw.trans (hb3.mono hbw.size))
        clear hb3
        go_wp2_with fail
        go_roundw
        case rel => exact ⟨j + 1, by omega, by go_num, by rw [HSN.out]; exact congrArg Value.string (Kit.append_mk g bx), HB3.out⟩
        case measure => simp [intOf]; omega
      · obtain rfl : j = l.length := by omega
        rw [List.take_length]
        go_wp2_with fail
        go_ret2
        rw [HR.out]
        exact ⟨rfl, hbw⟩
end Go.Proofs.YtlcdhlfkffkifaaGreatDoor

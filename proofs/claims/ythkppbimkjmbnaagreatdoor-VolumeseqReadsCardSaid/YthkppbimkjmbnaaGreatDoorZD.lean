/-
  The walks through checksum: Sum8, the table, CRC16.
-/
import Derived.Test.YthkppbimkjmbnaaGreatDoorZC
import Derived.Test.YthkppbimkjmbnaaGreatDoorZA
import Derived.Laws.BitsAllLaws
import Derived.Deep.WholeRow
import Derived.Laws.ResultCell
import Derived.Laws.CopyOwn
import Derived.Deep.OwnRows
import Derived.Lib.Slices
namespace Go.Proofs.YthkppbimkjmbnaaGreatDoor
open Go.RowKit

set_option maxHeartbeats 3200000 in
set_option maxRecDepth 100000 in
/-- checksum.Sum8. -/
theorem sum8_any (s : ByteArray) (w : World) (hs : s.size ≤ 9223372036854775807) :
    Calls Tryz.prog 214 #[.string s] w fun e w' => e = .returned (.int .u8 (Vs.sumR s.data.toList : Nat)) ∧ w = w' := by
  have hdl := Kit.len_size s
  go_enter Tryz.func214, Tryz.ntmps214
  go_wp2_with fail
  go_loop [3, 4, 7] (fun sv _ iv => ∃ i : Nat, i ≤ s.size ∧ iv = .int .i64 i ∧ sv = .int .u8 (Vs.sumR (s.data.toList.take i) : Nat)) (fun _ _ iv => s.size - (intOf iv).toNat)
  case atStart => exact ⟨0, Nat.zero_le _, rfl, rfl⟩
  case round =>
    obtain ⟨i, hi, rfl, rfl⟩ := hrel
    by_cases hlt : i < s.size
    · have hT := Vs.sumR_lt (s.data.toList.take i)
      have HN := Lib.hid (show Vs.sumR (s.data.toList.take (i + 1)) = (Vs.sumR (s.data.toList.take i) + (s[i]'hlt).toNat) % 256 by
        rw [List.take_succ_eq_append_getElem (by rw [hdl]; exact hlt), Vs.sumR_snoc]
        rfl)
      generalize Vs.sumR (s.data.toList.take i) = T at *
      go_wp2_with fail
      go_round
      case rel => exact ⟨i + 1, by omega, by go_num, by
        rw [HN.out]
        exact congrArg (Value.int .u8) (by omega)⟩
      case measure => simp [intOf]; omega
    · obtain rfl : i = s.size := by omega
      have HT := Lib.hid (show s.data.toList.take s.size = s.data.toList from List.take_of_length_le (by omega))
      rw [HT.out]
      go_wp2_with fail
      go_ret
      exact ⟨rfl, rfl⟩

set_option maxHeartbeats 3200000 in
set_option maxRecDepth 100000 in
/-- One entry of the table. -/
theorem direct1_any (b : Nat) (hb : b < 256) (w : World) :
    Calls Tryz.prog 283 #[.int .u8 b] w fun e w' => e = .returned (.int .u16 (Vs.crcTab b : Nat)) ∧ w = w' := by
  go_enter Tryz.func283, Tryz.ntmps283
  go_wp2_with fail
  go_loop [3, 7] (fun nv kv => ∃ k : Nat, k ≤ 8 ∧ kv = .int .i64 k ∧ nv = .int .u16 (Vs.crcBits k (b * 256) : Nat)) (fun _ kv => 8 - (intOf kv).toNat)
  case atStart => exact ⟨0, Nat.zero_le _, rfl, congrArg (Value.int .u16) (by show (b : Int) * 256 = ((b * 256 : Nat) : Int); omega)⟩
  case round =>
    obtain ⟨k, hk, rfl, rfl⟩ := hrel
    by_cases hlt : k < 8
    · have hT := Vs.crcBits_lt (n := b * 256) (by omega) k
      have HN := Lib.hid (Vs.crcBits_snoc k (b * 256))
      generalize Vs.crcBits k (b * 256) = T at *
      by_cases h1 : T / 32768 = 1
      · have HN1 := Lib.hid (HN.out.trans (if_pos h1))
        clear HN
        go_wp2_with fail
        go_round
        case rel => exact ⟨k + 1, by omega, by go_num, by
          rw [HN1.out, IntKind.wrap_u16, show ((T : Int) * 2 % 65536) = ((T * 2 % 65536 : Nat) : Int) by omega]
          exact congrArg (Value.int .u16) (u16_xor_nat (T * 2 % 65536) 4129 (by omega) (by decide))⟩
        case measure => simp [intOf]; omega
      · have HN1 := Lib.hid (HN.out.trans (if_neg h1))
        clear HN
        go_wp2_with fail
        go_round
        case rel => exact ⟨k + 1, by omega, by go_num, by
          rw [HN1.out]
          exact congrArg (Value.int .u16) (by omega)⟩
        case measure => simp [intOf]; omega
    · obtain rfl : k = 8 := by omega
      have HT := Lib.hid (show Vs.crcBits 8 (b * 256) = Vs.crcTab b from rfl)
      generalize Vs.crcBits 8 (b * 256) = T at *
      go_wp2_with fail
      go_ret
      rw [HT.out]
      exact ⟨rfl, rfl⟩

/-- A whole array stored. -/
theorem wpList_store_row {P : Program} {ops : Array Oper} {rest : List Oper} {o : Oper} {a : Act} {w : World} {Q : Exit → Act → World → Prop} (hgd : o.guard = none) (ty : TypeId) (x v : Operand) (ho : o.op = .store ty x v)
    (g : Nat) (hx : a.eval x = .pointer (some ⟨g, 0, none⟩)) (t : TypeId) (old cs : Array Value) (hv : a.eval v = .agg cs) (hg : w.heap[g]? = some (.cells old t (0, 0))) (hi : (P.info? ty).map (·.size) = some cs.size) (hs : old.size = cs.size) (h1 : cs.all (·.oneCell') = true)
    (h : wpList P ops Q rest (a.put o.dst undef) (w.setRow g cs)) : wpList P ops Q (o :: rest) a w := by
  refine wpList_plain hgd fun K hK => ?_
  unfold Oper.wp execOp
  simp only [ho, hx, hv, Instr.storeAt, Instr.sureAddr, Sem.run_bind, Sem.run_pure, Result.andThen_ok, run_storeVar_row w g t ty old cs hg hi hs h1]
  exact hK _ _ h
theorem tabInfo : (Tryz.prog.info? 240).map (fun i => (i.zero, i.size)) = some (some (.agg (Array.replicate 256 (.int .u16 0))), 256) := by kernel_rfl

set_option maxHeartbeats 3200000 in
set_option maxRecDepth 100000 in
/-- The table. -/
theorem table_any (w : World) :
    Calls Tryz.prog 282 #[.func (.func 283) #[] #[]] w fun e w' => e = .returned (.agg ((List.range 256).map fun i => Value.int .u16 (Vs.crcTab i : Nat)).toArray) ∧ Below w.heap.size w w' := by
  have hz := (zero_of_info (P := Tryz.prog) tabInfo).1
  go_enter Tryz.func282, Tryz.ntmps282
  go_wp2_with fail
  go_loopw [4, 5] (fun _ iv wr => ∃ j : Nat, j ≤ 256 ∧ iv = .int .i64 j ∧ Hid (wr.rowIs (w.heap.size + 1) 240 256 (fun i => .int .u16 (if i < j then (Vs.crcTab i : Nat) else 0 : Nat))) ∧ Hid (wr.rowIs w.heap.size 240 256 (fun _ => .int .u16 0)) ∧ Below w.heap.size w wr) (fun _ iv _ => 256 - (intOf iv).toNat)
  case atStart =>
    have h1 := World.rowIs_alloc w (Array.replicate 256 (.int .u16 0)) 240 (fun _ => .int .u16 0) (fun i hi => by rw [Array.size_replicate] at hi; simp [hi])
    have h2 := World.rowIs_alloc (w.alloc (.cells (Array.replicate 256 (.int .u16 0)) 240)) (Array.replicate 256 (.int .u16 0)) 240 (fun _ => .int .u16 0) (fun i hi => by rw [Array.size_replicate] at hi; simp [hi])
    rw [Array.size_replicate] at h1 h2
    rw [World.size_alloc] at h2
    exact ⟨0, by omega, rfl, Lib.hid (h2.congr (fun i _ => by simp)), Lib.hid (h1.alloc _), ((Below.refl _ _).alloc (Nat.le_refl _) _).alloc (by simp) _⟩
  case round =>
    obtain ⟨j, hj, rfl, HR, HZ, hbw⟩ := hrel
    by_cases hlt : j < 256
    · have hc := HR.out.cell hlt
      have hf := HR.out.frozen j
      have C1 := Lib.hid (fun W => direct1_any j hlt W)
      have HB := Lib.hid hbw
      have hjz : (j : Int) < 256 := by omega
      clear hbw
      go_wp2_with fail
      with_reducible refine (C1.out _).mono ?_
      rintro e w2 ⟨rfl, rfl⟩
      go_wp2_with fail
      go_roundw
      case rel => exact ⟨j + 1, by omega, by go_num, Lib.hid ((HR.out.set j _).congr (fun i hi => by
        by_cases hij : i = j
        · subst hij; simp
        · by_cases h2 : i < j
          · have : i < j + 1 := by omega
            simp [hij, h2, this]
          · have : ¬ i < j + 1 := by omega
            simp [hij, h2, this])), Lib.hid (HZ.out.setOther (by simp) _), HB.out.setCell (by simp) _⟩
      case measure => simp [intOf]; omega
    · obtain rfl : j = 256 := by omega
      obtain ⟨c, hc, hn, hcc⟩ := HR.out
      obtain ⟨c0, hc0, hn0, _⟩ := HZ.out
      have HC := Lib.hid hc
      have HC0 := Lib.hid hc0
      have HN := Lib.hid hn
      have HN0 := Lib.hid hn0
      have HE := Lib.hid (show c = ((List.range 256).map fun i => Value.int .u16 (Vs.crcTab i : Nat)).toArray from by
        apply Array.ext_getElem?
        intro i
        by_cases hi : i < 256
        · rw [hcc i hi]
          simp [hi]
        · rw [Array.getElem?_eq_none (by omega), Array.getElem?_eq_none (by simp; omega)])
      clear hc hc0 hn hn0 hcc HR HZ
      have H1 := Lib.hid (show c.all (·.oneCell') = true by
        rw [HE.out, Array.all_eq_true_iff_forall_mem]
        intro u hu
        simp at hu
        obtain ⟨i, _, rfl⟩ := hu
        rfl)
      have hi := (zero_of_info (P := Tryz.prog) tabInfo).2
      have HI := Lib.hid hi
      clear hi
      go_wp2_with (first
        | refine wpList_load_row rfl 240 _ rfl (w.heap.size + 1) rfl 240 c (0, 0) _ HC.out Tryz.underlying240 rfl (by rw [HN.out]; exact HI.out) ?_
        | refine wpList_store_row rfl 240 _ _ rfl w.heap.size rfl 240 c0 c rfl HC0.out (by rw [HN.out]; exact HI.out) (by rw [HN.out, HN0.out]) H1.out ?_)
      refine bodyPost_ret (v := .agg c) ?_ rfl ⟨?_, ?_⟩
      · exact results_cell_row rfl _ _ w.heap.size 240 c (0, 0) _ rfl (setRow_heap _ _ c0 c _ _ HC0.out) Tryz.underlying240 rfl (by rw [HN.out]; exact HI.out)
      · rw [HE.out]
      · exact below_setRow hbw (Nat.le_refl _) _

namespace Vs
/-- The table as a value. -/
def tabA : Array Value := ((List.range 256).map fun i => Value.int .u16 (crcTab i : Nat)).toArray
theorem tabA_size : tabA.size = 256 := by simp [tabA]
theorem tabA_at {i : Nat} (h : i < 256) : tabA[i]? = some (.int .u16 (crcTab i : Nat)) := by simp [tabA, h]
theorem tabA_one : tabA.all (·.oneCell') = true := by
  rw [Array.all_eq_true_iff_forall_mem]
  intro u hu
  simp [tabA] at hu
  obtain ⟨i, _, rfl⟩ := hu
  rfl
end Vs

set_option maxHeartbeats 3200000 in
set_option maxRecDepth 100000 in
/-- checksum.direct. -/
theorem direct_any (w : World) : Calls Tryz.prog 264 #[] w fun e w' => e = .returned (.agg Vs.tabA) ∧ Below w.heap.size w w' := by
  have hz := (zero_of_info (P := Tryz.prog) tabInfo).1
  have CT := Lib.hid (fun W => table_any W)
  have HI := Lib.hid (zero_of_info (P := Tryz.prog) tabInfo).2
  rw [show ((List.range 256).map fun i => Value.int .u16 (Vs.crcTab i : Nat)).toArray = Vs.tabA from rfl] at CT
  have HN := Lib.hid Vs.tabA_size
  have H1 := Lib.hid Vs.tabA_one
  generalize Vs.tabA = c at *
  go_enter Tryz.func264, Tryz.ntmps264
  go_wp2_with fail
  with_reducible refine (CT.out _).mono ?_
  rintro e w2 ⟨rfl, hb2⟩
  have HC0 := Lib.hid ((hb2.block w.heap.size (by simp)).trans (heap_alloc_new w (.cells (Array.replicate 256 (.int .u16 0)) 240)))
  have HB := Lib.hid (((Below.refl _ w).alloc (Nat.le_refl _) (.cells (Array.replicate 256 (.int .u16 0)) 240)).trans (hb2.mono (by simp)))
  clear hb2
  go_wp2_with (refine wpList_store_row rfl 240 _ _ rfl w.heap.size rfl 240 (Array.replicate 256 (.int .u16 0)) c rfl HC0.out (by rw [HN.out]; exact HI.out) (by rw [HN.out, Array.size_replicate]) H1.out ?_)
  refine bodyPost_ret (v := .agg c) ?_ rfl ⟨rfl, ?_⟩
  · exact results_cell_row rfl _ _ w.heap.size 240 c (0, 0) _ rfl (setRow_heap _ _ (Array.replicate 256 (.int .u16 0)) c _ _ HC0.out) Tryz.underlying240 rfl (by rw [HN.out]; exact HI.out)
  · exact below_setRow HB.out (Nat.le_refl _) _

set_option maxHeartbeats 3200000 in
set_option maxRecDepth 100000 in
/-- checksum.ExtendCRC16, from 0 on. -/
theorem extend_any (s : ByteArray) (w : World) (hs : s.size ≤ 9223372036854775807) : Calls Tryz.prog 215 #[.int .u16 0, .string s] w fun e w' => e = .returned (.int .u16 (Vs.crcR s.data.toList : Nat)) ∧ Below w.heap.size w w' := by
  have hdl := Kit.len_size s
  have hz := (zero_of_info (P := Tryz.prog) tabInfo).1
  have CT := Lib.hid (fun W => direct_any W)
  have HI := Lib.hid (zero_of_info (P := Tryz.prog) tabInfo).2
  have HN := Lib.hid Vs.tabA_size
  have H1 := Lib.hid Vs.tabA_one
  have HAT := Lib.hid (fun i h => Vs.tabA_at (i := i) h)
  generalize Vs.tabA = c at *
  go_enter Tryz.func215, Tryz.ntmps215
  go_wp2_with fail
  with_reducible refine (CT.out _).mono ?_
  rintro e w2 ⟨rfl, hb2⟩
  have HC0 := Lib.hid (heap_alloc_new w2 (.cells (Array.replicate 256 (.int .u16 0)) 240))
  have HB := Lib.hid (hb2.alloc hb2.size (.cells (Array.replicate 256 (.int .u16 0)) 240))
  have hg2 := hb2.size
  clear hb2
  go_wp2_with (refine wpList_store_row rfl 240 _ _ rfl w2.heap.size rfl 240 (Array.replicate 256 (.int .u16 0)) c rfl HC0.out (by rw [HN.out]; exact HI.out) (by rw [HN.out, Array.size_replicate]) H1.out ?_)
  have HCELL := Lib.hid (fun i (hi : i < 256) => (cell_setRow_same (w2.alloc (.cells (Array.replicate 256 (.int .u16 0)) 240)) w2.heap.size i _ c _ _ HC0.out).trans (HAT.out i hi))
  have HBT := Lib.hid (below_setRow HB.out hg2 c)
  clear HB HC0 CT HI HN H1 HAT hz
  generalize (w2.alloc (.cells (Array.replicate 256 (.int .u16 0)) 240)).setRow w2.heap.size c = wT at *
  generalize w2.heap.size = g at *
  go_loop [0, 6, 10] (fun cv _ iv => ∃ i : Nat, i ≤ s.size ∧ iv = .int .i64 i ∧ cv = .int .u16 (Vs.crcR (s.data.toList.take i) : Nat)) (fun _ _ iv => s.size - (intOf iv).toNat)
  case atStart => exact ⟨0, Nat.zero_le _, rfl, rfl⟩
  case round =>
    obtain ⟨i, hi, rfl, rfl⟩ := hrel
    by_cases hlt : i < s.size
    · have hT := Vs.crcR_lt (s.data.toList.take i)
      have HN := Lib.hid (show Vs.crcR (s.data.toList.take (i + 1)) = Vs.crcStep (Vs.crcR (s.data.toList.take i)) (s[i]'hlt).toNat by
        rw [List.take_succ_eq_append_getElem (by rw [hdl]; exact hlt), Vs.crcR_snoc]
        rfl)
      generalize Vs.crcR (s.data.toList.take i) = T at *
      have hb := UInt8.toNat_lt (s[i]'hlt)
      have hx := Nat.xor_lt_two_pow (n := 8) (x := T / 256) (y := (s[i]'hlt).toNat) (by omega) hb
      have hq : (T : Int) / 256 < 256 := by omega
      have hq0 : 0 ≤ (T : Int) / 256 := by omega
      have hcell := HCELL.out _ hx
      have h8 := u8_xor_nat (T / 256) (s[i]'hlt).toNat (by omega) hb
      rw [show ((T / 256 : Nat) : Int) = (T : Int) / 256 by omega] at h8
      go_wp2_with fail
      go_round
      case rel => exact ⟨i + 1, by omega, by go_num, by
        rw [HN.out, IntKind.wrap_u16, show ((T : Int) * 256 % 65536) = ((T * 256 % 65536 : Nat) : Int) by omega]
        exact congrArg (Value.int .u16) (u16_xor_nat (T * 256 % 65536) _ (by omega) (Vs.crcTab_lt hx))⟩
      case measure => simp [intOf]; omega
    · obtain rfl : i = s.size := by omega
      have HT := Lib.hid (show s.data.toList.take s.size = s.data.toList from List.take_of_length_le (by omega))
      rw [HT.out]
      go_wp2_with fail
      go_ret
      exact ⟨rfl, HBT.out⟩

set_option maxHeartbeats 1600000 in
set_option maxRecDepth 100000 in
/-- checksum.CRC16. -/
theorem crc16_any (s : ByteArray) (w : World) (hs : s.size ≤ 9223372036854775807) : Calls Tryz.prog 153 #[.string s] w fun e w' => e = .returned (.int .u16 (Vs.crcR s.data.toList : Nat)) ∧ Below w.heap.size w w' := by
  have CE := Lib.hid (fun W => extend_any s W hs)
  generalize Vs.crcR s.data.toList = T at *
  go_enter Tryz.func153, Tryz.ntmps153
  go_wp2_with fail
  with_reducible refine (CE.out _).mono ?_
  rintro e w2 ⟨rfl, hb2⟩
  go_wp2_with fail
  go_ret
  exact ⟨rfl, hb2⟩
end Go.Proofs.YthkppbimkjmbnaaGreatDoor

/-
  Plain laws on times and stamps: no program in sight.
-/
namespace Go.Proofs.YthkppbimkjmbnaaGreatDoor
namespace Vs
def leap (y : Int) : Bool := decide (y % 400 = 0) || (decide (y % 4 = 0) && !decide (y % 100 = 0))
def mdays (y m : Int) : Int := if m = 2 then (if leap y = true then 29 else 28) else if m = 4 ∨ m = 6 ∨ m = 9 ∨ m = 11 then 30 else 31
def ydays (y : Int) : Int := if leap y = true then 366 else 365
theorem ydays_bd (y : Int) : 365 ≤ ydays y ∧ ydays y ≤ 366 := by unfold ydays; split <;> omega
theorem mdays_bd (y m : Int) : 28 ≤ mdays y m ∧ mdays y m ≤ 31 := by unfold mdays; split <;> (try split) <;> omega
/-- The days of n years from y on; of n months from the first on. -/
def ysum (y : Int) : Nat → Int
  | 0 => 0
  | n + 1 => ysum y n + ydays (y + n)
def msum (y : Int) : Nat → Int
  | 0 => 0
  | n + 1 => msum y n + mdays y (n + 1)
theorem ysum_bd (y : Int) (n : Nat) : 365 * (n : Int) ≤ ysum y n ∧ ysum y n ≤ 366 * n := by
  induction n with
  | zero => simp [ysum]
  | succ n ih =>
    have := ydays_bd (y + n)
    simp only [ysum]
    omega
theorem msum_bd (y : Int) (n : Nat) : 28 * (n : Int) ≤ msum y n ∧ msum y n ≤ 31 * n := by
  induction n with
  | zero => simp [msum]
  | succ n ih =>
    have := mdays_bd y (n + 1)
    simp only [msum]
    omega
theorem msum_12 (y : Int) : msum y 12 = ydays y := by
  simp only [msum, mdays]
  unfold ydays
  cases leap y <;> simp
structure C where
  y : Int
  m : Int
  d : Int
  h : Int
  mi : Int
  s : Int
def okC (c : C) : Bool := decide (1900 ≤ c.y) && (decide (c.y ≤ 2155) && (decide (1 ≤ c.m) && (decide (c.m ≤ 12) && (decide (1 ≤ c.d) && (decide (c.d ≤ mdays c.y c.m) && (decide (0 ≤ c.h) && (decide (c.h ≤ 23) && (decide (0 ≤ c.mi) && (decide (c.mi ≤ 59) && (decide (0 ≤ c.s) && decide (c.s ≤ 59)))))))))))
theorem okC_iff (c : C) : okC c = true ↔ 1900 ≤ c.y ∧ c.y ≤ 2155 ∧ 1 ≤ c.m ∧ c.m ≤ 12 ∧ 1 ≤ c.d ∧ c.d ≤ mdays c.y c.m ∧ 0 ≤ c.h ∧ c.h ≤ 23 ∧ 0 ≤ c.mi ∧ c.mi ≤ 59 ∧ 0 ≤ c.s ∧ c.s ≤ 59 := by simp [okC]
def isTime (t : Int) : Bool := decide (315532800 ≤ t) && decide (t ≤ 4102444799)
theorem isTime_iff (t : Int) : isTime t = true ↔ 315532800 ≤ t ∧ t ≤ 4102444799 := by simp [isTime]
/-- The days of the years between 1970 and y. -/
def yto (y : Int) : Int := if y < 1970 then - ysum y (1970 - y).toNat else ysum 1970 (y - 1970).toNat
def secs (c : C) : Int := (c.d - 1 + msum c.y (c.m - 1).toNat + yto c.y) * 86400 + c.h * 3600 + c.mi * 60 + c.s
/-- The year of some days since the beginning of a year, and the days that are left; the month. -/
def yearF : Nat → Int → Int → Int × Int
  | 0, d, y => (d, y)
  | f + 1, d, y => if ydays y ≤ d then yearF f (d - ydays y) (y + 1) else (d, y)
def monthF : Nat → Int → Int → Int → Int × Int
  | 0, _, d, m => (d, m)
  | f + 1, y, d, m => if mdays y m ≤ d then monthF f y (d - mdays y m) (m + 1) else (d, m)
def splitR (t : Int) : C :=
  ⟨(yearF 200 (t / 86400) 1970).2, (monthF 12 (yearF 200 (t / 86400) 1970).2 (yearF 200 (t / 86400) 1970).1 1).2, (monthF 12 (yearF 200 (t / 86400) 1970).2 (yearF 200 (t / 86400) 1970).1 1).1 + 1, t % 86400 / 3600, t % 86400 / 60 % 60, t % 86400 % 60⟩
theorem ysum_snoc (y : Int) (n : Nat) : ysum y (n + 1) = ydays y + ysum (y + 1) n := by
  induction n with
  | zero => simp [ysum]
  | succ n ih =>
    have h : ysum y (n + 1 + 1) = ysum y (n + 1) + ydays (y + ((n + 1 : Nat) : Int)) := rfl
    have h2 : ysum (y + 1) (n + 1) = ysum (y + 1) n + ydays (y + 1 + (n : Int)) := rfl
    rw [h, ih, h2, show y + ((n + 1 : Nat) : Int) = y + 1 + (n : Int) by omega]
    omega
theorem yearF_spec : ∀ (f : Nat) (d y : Int), 0 ≤ d → d < 365 * f → ∃ n : Nat, n < f ∧ (yearF f d y).2 = y + n ∧ d = ysum y n + (yearF f d y).1 ∧ 0 ≤ (yearF f d y).1 ∧ (yearF f d y).1 < ydays (y + n)
  | 0, d, y, h0, h1 => by omega
  | f + 1, d, y, h0, h1 => by
    have hb := ydays_bd y
    by_cases h : ydays y ≤ d
    · obtain ⟨n, hn, e1, e2, e3, e4⟩ := yearF_spec f (d - ydays y) (y + 1) (by omega) (by omega)
      have hF : yearF (f + 1) d y = yearF f (d - ydays y) (y + 1) := if_pos h
      rw [hF]
      refine ⟨n + 1, by omega, by omega, ?_, e3, ?_⟩
      · rw [ysum_snoc]
        omega
      · rw [show y + ((n + 1 : Nat) : Int) = y + 1 + n by omega]
        exact e4
    · have hF : yearF (f + 1) d y = (d, y) := if_neg h
      rw [hF]
      exact ⟨0, by omega, by simp, by simp [ysum], h0, by simpa using (by omega : d < ydays y)⟩
theorem monthF_spec (y : Int) : ∀ (f : Nat) (d : Int) (k : Nat), 0 ≤ d → msum y k + d < ydays y → f + k = 12 → ∃ n : Nat, k ≤ n ∧ n < 12 ∧ (monthF f y d (k + 1)).2 = n + 1 ∧ msum y k + d = msum y n + (monthF f y d (k + 1)).1 ∧ 0 ≤ (monthF f y d (k + 1)).1 ∧ (monthF f y d (k + 1)).1 < mdays y (n + 1)
  | 0, d, k, h0, h1, h2 => by
    have : k = 12 := by omega
    subst this
    rw [msum_12] at h1
    omega
  | f + 1, d, k, h0, h1, h2 => by
    have hs : msum y (k + 1) = msum y k + mdays y (k + 1) := rfl
    by_cases h : mdays y (k + 1) ≤ d
    · obtain ⟨n, hn0, hn, e1, e2, e3, e4⟩ := monthF_spec y f (d - mdays y (k + 1)) (k + 1) (by omega) (by omega) (by omega)
      have hF : monthF (f + 1) y d (k + 1) = monthF f y (d - mdays y (k + 1)) (k + 1 + 1) := if_pos h
      rw [hF]
      have hk : ((k + 1 : Nat) : Int) + 1 = (k : Int) + 1 + 1 := by omega
      rw [hk] at e1 e2 e3 e4
      exact ⟨n, by omega, hn, e1, by omega, e3, e4⟩
    · have hF : monthF (f + 1) y d (k + 1) = (d, (k : Int) + 1) := if_neg h
      rw [hF]
      exact ⟨k, Nat.le_refl _, by omega, rfl, rfl, h0, by simpa using h⟩
/-- A time is split into a clock that has it. -/
theorem split_ok {t : Int} (h : isTime t = true) : okC (splitR t) = true ∧ secs (splitR t) = t ∧ 1970 ≤ (splitR t).y ∧ (splitR t).y ≤ 2101 := by
  obtain ⟨h0, h1⟩ := (isTime_iff t).1 h
  obtain ⟨n, hn, e1, e2, e3, e4⟩ := yearF_spec 200 (t / 86400) 1970 (by omega) (by omega)
  have hy := ysum_bd 1970 n
  have hyd := ydays_bd (1970 + n)
  obtain ⟨k, _, hk, g1, g2, g3, g4⟩ := monthF_spec (1970 + n) 12 (yearF 200 (t / 86400) 1970).1 0 e3 (by simpa [msum] using e4) rfl
  have hm0 : msum (1970 + n) 0 = 0 := rfl
  rw [hm0] at g2
  have hc0 : ((0 : Nat) : Int) + 1 = 1 := rfl
  rw [hc0] at g1 g2 g3 g4
  have hS : splitR t = ⟨1970 + n, k + 1, (monthF 12 (1970 + n) (yearF 200 (t / 86400) 1970).1 1).1 + 1, t % 86400 / 3600, t % 86400 / 60 % 60, t % 86400 % 60⟩ := by
    unfold splitR
    rw [e1, g1]
  rw [hS, okC_iff]
  generalize (monthF 12 (1970 + n) (yearF 200 (t / 86400) 1970).1 1).1 = d at *
  generalize (yearF 200 (t / 86400) 1970).1 = dd at *
  have hyto : yto (1970 + n) = ysum 1970 n := by
    unfold yto
    rw [if_neg (by omega), show (1970 + (n : Int) - 1970).toNat = n by omega]
  have hmt : ((k : Int) + 1 - 1).toNat = k := by omega
  have hsec : secs ⟨1970 + n, k + 1, d + 1, t % 86400 / 3600, t % 86400 / 60 % 60, t % 86400 % 60⟩ = t := by
    unfold secs
    simp only []
    rw [hmt, hyto]
    omega
  refine ⟨⟨?_, ?_, ?_, ?_, ?_, ?_, ?_, ?_, ?_, ?_, ?_, ?_⟩, hsec, ?_, ?_⟩
  all_goals (try simp only [])
  all_goals omega
/-- The bytes of the stamp of a time in the zone 0. -/
def stampC (c : C) : List UInt8 := [0, 16, UInt8.ofNat (c.y % 256).toNat, UInt8.ofNat (c.y / 256).toNat, UInt8.ofNat c.m.toNat, UInt8.ofNat c.d.toNat, UInt8.ofNat c.h.toNat, UInt8.ofNat c.mi.toNat, UInt8.ofNat c.s.toNat, 0, 0, 0]
def stampR (t : Int) : List UInt8 := if isTime t = true then stampC (splitR t) else []
theorem stampR_len {t : Int} (h : isTime t = true) : (stampR t).length = 12 := by
  unfold stampR
  rw [if_pos h]
  rfl
/-- What ReadStamp returns. -/
def kindOf (s : List UInt8) : Int := (Cs.byt s 0 + 256 * Cs.byt s 1 : Nat)
def zoneOf (s : List UInt8) : Int :=
  if kindOf s / 4096 = 0 ∨ (kindOf s / 4096 = 1 ∧ kindOf s % 4096 = 2049) then 0 else if 2048 ≤ kindOf s % 4096 then kindOf s % 4096 - 4096 else kindOf s % 4096
def clockOf (s : List UInt8) : C := ⟨(Cs.byt s 2 + 256 * Cs.byt s 3 : Nat), (Cs.byt s 4 : Nat), (Cs.byt s 5 : Nat), (Cs.byt s 6 : Nat), (Cs.byt s 7 : Nat), (Cs.byt s 8 : Nat)⟩
def rightOf (s : List UInt8) : Bool := decide (kindOf s / 4096 ≤ 1) && (decide (-1440 ≤ zoneOf s) && (decide (zoneOf s ≤ 1440) && (decide (Cs.byt s 9 ≤ 99) && (decide (Cs.byt s 10 ≤ 99) && decide (Cs.byt s 11 ≤ 99)))))
def readSR (s : List UInt8) : (Int × Int) × Int :=
  if s.length ≠ 12 then ((0, 0), 1) else
    if (rightOf s && okC (clockOf s)) = true then (if isTime (secs (clockOf s) - 60 * zoneOf s) = true then ((secs (clockOf s) - 60 * zoneOf s, zoneOf s), 0) else ((0, 0), 2)) else ((0, 0), 10)
theorem u8_nat {n : Int} (h0 : 0 ≤ n) (h1 : n < 256) : ((UInt8.ofNat n.toNat).toNat : Int) = n := by
  rw [UInt8.toNat_ofNat', Nat.mod_eq_of_lt (by omega)]
  omega
/-- A stamp is read as its time. -/
theorem read_stamp {t : Int} (h : isTime t = true) : readSR (stampR t) = ((t, 0), 0) := by
  obtain ⟨hok, hs, hy0, hy1⟩ := split_ok h
  have hl := stampR_len h
  have hE : stampR t = stampC (splitR t) := if_pos h
  obtain ⟨q1, q2, q3, q4, q5, q6, q7, q8, q9, q10, q11, q12⟩ := (okC_iff _).1 hok
  have hmd := mdays_bd (splitR t).y (splitR t).m
  generalize splitR t = c at *
  obtain ⟨y, m, d, hh, mi, s⟩ := c
  simp only [] at *
  have hk : kindOf (stampR t) = 4096 := by rw [hE]; rfl
  have hz : zoneOf (stampR t) = 0 := by unfold zoneOf; rw [hk]; decide
  have hc : clockOf (stampR t) = ⟨y, m, d, hh, mi, s⟩ := by
    have c1 := u8_nat (n := y % 256) (by omega) (by omega)
    have c2 := u8_nat (n := y / 256) (by omega) (by omega)
    have c3 := u8_nat (n := m) (by omega) (by omega)
    have c4 := u8_nat (n := d) (by omega) (by omega)
    have c5 := u8_nat (n := hh) (by omega) (by omega)
    have c6 := u8_nat (n := mi) (by omega) (by omega)
    have c7 := u8_nat (n := s) (by omega) (by omega)
    rw [hE]
    unfold clockOf
    show (⟨(((UInt8.ofNat (y % 256).toNat).toNat + 256 * (UInt8.ofNat (y / 256).toNat).toNat : Nat) : Int), ((UInt8.ofNat m.toNat).toNat : Int), ((UInt8.ofNat d.toNat).toNat : Int), ((UInt8.ofNat hh.toNat).toNat : Int), ((UInt8.ofNat mi.toNat).toNat : Int), ((UInt8.ofNat s.toNat).toNat : Int)⟩ : C) = _
    rw [c3, c4, c5, c6, c7, show (((UInt8.ofNat (y % 256).toNat).toNat + 256 * (UInt8.ofNat (y / 256).toNat).toNat : Nat) : Int) = y by omega]
  have hr : rightOf (stampR t) = true := by
    unfold rightOf
    rw [hk, hz, hE]
    rfl
  unfold readSR
  rw [if_neg (by rw [hl]; decide), hr, hc, hok, hz]
  simp only [Int.mul_zero, Int.sub_zero]
  rw [hs, h]
  rfl
end Vs
end Go.Proofs.YthkppbimkjmbnaaGreatDoor

/-
  Plain facts about compressed Unicode and dstring fields: what the functions of layer 32 return, as functions of lists of bytes, and the laws between them. No program in it.
-/
namespace Go.Proofs.YthkppbimkjmbnaaGreatDoor
namespace Cs

/-- The bytes of one character in compressed Unicode of a width. -/
def cu (size : Nat) (c : Nat) : List UInt8 := if size = 1 then [UInt8.ofNat c] else [UInt8.ofNat (c / 256), UInt8.ofNat c]

/-- Compressed Unicode of characters with a width. -/
def comp (cs : List Nat) (size : Nat) : List UInt8 := UInt8.ofNat (8 * size) :: cs.flatMap (cu size)

/-- The width that the characters need. -/
def wid (cs : List Nat) : Nat := if cs.all (fun c => decide (c ≤ 255)) then 1 else 2

theorem wid_or (cs : List Nat) : wid cs = 1 ∨ wid cs = 2 := by unfold wid; split <;> simp

/-- Compressed Unicode of characters. -/
def squeeze (cs : List Nat) : List UInt8 := if cs.length = 0 then [] else comp cs (wid cs)

/-- What Compress returns. -/
def compressR (l : List UInt8) : List UInt8 × Int := if (charsR l).2 = 0 then (squeeze (charsR l).1, 0) else ([], (charsR l).2)

/-- The numbers that stand in compressed Unicode behind its first byte. -/
def units (size : Nat) : List UInt8 → List Nat
  | [] => []
  | [a] => if size = 1 then [a.toNat] else []
  | a :: b :: t => if size = 1 then a.toNat :: units size (b :: t) else (a.toNat * 256 + b.toNat) :: units size t

/-- The numbers as characters. -/
def allChars (ns : List Nat) : Bool := ns.all fun n => isChar (n : Int)

/-- The bytes of characters. -/
def text (ns : List Nat) : List UInt8 := ns.flatMap fun (n : Nat) => enc (n : Int)

/-- What Expand returns. -/
def expandR (d : List UInt8) : List UInt8 × Int :=
  if 65536 < d.length then ([], 7) else if d.length = 0 then ([], 0)
  else if ¬ (byt d 0 = 8 ∨ byt d 0 = 16) ∨ (byt d 0 = 16 ∧ d.length % 2 = 0) then ([], 3)
  else if allChars (units (byt d 0 / 8) (d.drop 1)) then (text (units (byt d 0 / 8) (d.drop 1)), 0) else ([], 2)

/-- A size that a field can have. -/
def sized (n : Int) : Bool := decide (2 ≤ n) && decide (n ≤ 255)

/-- What Dstring returns. -/
def dstrR (l : List UInt8) (size : Int) : List UInt8 × Int :=
  if sized size = false then ([], 1) else if ¬ (compressR l).2 = 0 then ([], (compressR l).2)
  else if size - 1 < (compressR l).1.length then ([], 12)
  else ((compressR l).1 ++ List.replicate (size.toNat - 1 - (compressR l).1.length) 0 ++ [UInt8.ofNat (compressR l).1.length], 0)

/-- What ParseDstring returns. -/
def parseR (f : List UInt8) : List UInt8 × Int :=
  if sized f.length = false then ([], 1) else if f.length - 1 < byt f (f.length - 1) then ([], 10) else expandR (f.take (byt f (f.length - 1)))

/-- The greatest number of characters, at most n, that fit in a field. -/
def fitN (cs : List Nat) (size : Int) : Nat → Nat
  | 0 => 0
  | n + 1 => if ((squeeze (cs.take (n + 1))).length : Int) ≤ size - 1 then n + 1 else fitN cs size n

/-- What Fit returns. -/
def fitR (l : List UInt8) (size : Int) : List UInt8 :=
  if (charsR l).2 = 0 ∧ sized size = true then text ((charsR l).1.take (fitN (charsR l).1 size (min (charsR l).1.length size.toNat))) else []

/-! ### laws -/

theorem isChar_le {n : Nat} (h : isChar (n : Int) = true) : n ≤ 65533 := by
  have := (isChar_iff _).1 h
  omega

theorem encZ_len (n : Int) : (encZ n).length = if n < 128 then 1 else if n < 2048 then 2 else 3 := by
  unfold encZ
  repeat' split
  all_goals simp

theorem enc_length (n : Int) : (enc n).length = if n < 128 then 1 else if n < 2048 then 2 else 3 := by
  unfold enc
  rw [List.length_map, encZ_len]

theorem num_enc (n : Int) (h0 : 0 ≤ n) (h1 : n ≤ 65535) (t : List UInt8) : num (enc n ++ t) (enc n).length = n := by
  have hb : ∀ i, (h : i < (enc n).length) → ((byt (enc n ++ t) i : Nat) : Int) = (encZ n).getD i 0 := by
    intro i h
    rw [← enc_toNat n h0 h1]
    simp [byt, List.getD, List.getElem?_append_left h, h]
  have hl := enc_length n
  by_cases a : n < 128
  · rw [if_pos a] at hl
    have e0 := hb 0 (by omega)
    rw [hl]
    unfold encZ at e0
    rw [if_pos a] at e0
    simpa [num] using e0
  · by_cases b : n < 2048
    · rw [if_neg a, if_pos b] at hl
      have e0 := hb 0 (by omega); have e1 := hb 1 (by omega)
      rw [hl]
      unfold encZ at e0 e1
      rw [if_neg a, if_pos b] at e0 e1
      simp at e0 e1
      show ((byt (enc n ++ t) 0 : Int) - 192) * 64 + byt (enc n ++ t) 1 - 128 = n
      rw [e0, e1]
      omega
    · rw [if_neg a, if_neg b] at hl
      have e0 := hb 0 (by omega); have e1 := hb 1 (by omega); have e2 := hb 2 (by omega)
      rw [hl]
      unfold encZ at e0 e1 e2
      rw [if_neg a, if_neg b] at e0 e1 e2
      simp at e0 e1 e2
      show ((byt (enc n ++ t) 0 : Int) - 224) * 4096 + ((byt (enc n ++ t) 1 : Int) - 128) * 64 + byt (enc n ++ t) 2 - 128 = n
      rw [e0, e1, e2]
      omega

theorem enc_pos (n : Int) : 1 ≤ (enc n).length := by
  rw [enc_length]
  split
  · omega
  · split <;> omega

/-- The bytes of a character are read as that character. -/
theorem dec_enc (n : Nat) (h : isChar (n : Int) = true) (t : List UInt8) : dec (enc (n : Int) ++ t) = some (n, (enc (n : Int)).length) := by
  have hc := (isChar_iff _).1 h
  have hp := enc_pos (n : Int)
  have hlen : 0 < (enc (n : Int) ++ t).length := by rw [List.length_append]; omega
  have hn := num_enc (n : Int) (by omega) (by omega) t
  have hf : fits (enc (n : Int) ++ t) (enc (n : Int)).length = true := by
    rw [fits_eq _ _ (by simp) (by rw [hn]; exact h), hn]
    simp
  have f1 := fits_one (enc (n : Int) ++ t)
  have f2 := fits_two (enc (n : Int) ++ t)
  have f3 := fits_three (enc (n : Int) ++ t)
  rw [dec_fits _ hlen]
  have hl := enc_length (n : Int)
  by_cases a : (n : Int) < 128
  · rw [if_pos a] at hl
    rw [hl] at hn hf ⊢
    rw [if_pos hf, hn]
    rfl
  · by_cases b : (n : Int) < 2048
    · rw [if_neg a, if_pos b] at hl
      rw [hl] at hn hf ⊢
      have h2 := f2.1 hf
      rw [if_neg (fun x => by have := f1.1 x; omega), if_pos hf, hn]
      rfl
    · rw [if_neg a, if_neg b] at hl
      rw [hl] at hn hf ⊢
      have h3 := f3.1 hf
      rw [if_neg (fun x => by have := f1.1 x; omega), if_neg (fun x => by have := f2.1 x; omega), if_pos hf, hn]
      rfl

theorem chars_text (ns : List Nat) : ∀ (_ : allChars ns = true), chars (text ns) = some ns := by
  induction ns with
  | nil => intro _; rfl
  | cons n t ih =>
    intro h
    unfold allChars at h ih
    rw [List.all_cons, Bool.and_eq_true] at h
    have e : text (n :: t) = enc (n : Int) ++ text t := by simp [text]
    rw [e, chars_step (by have := enc_pos (n : Int); simp; omega) (dec_enc n h.1 (text t)), List.drop_left, ih h.2]

/-- The first character's bytes. -/
theorem dec_take {l : List UInt8} (h : 0 < l.length) {n k : Nat} (hd : dec l = some (n, k)) : enc (n : Int) = l.take k := by
  have hw := dec_width h hd
  have hf := dec_fits l h
  rw [hd] at hf
  have fin : ∀ j, fits l j = true → (num l j).toNat = n → j = k → enc (n : Int) = l.take k := by
    rintro j hj hn rfl
    have hic : isChar (num l j) = true := by
      unfold fits at hj
      simp only [Bool.and_eq_true] at hj
      exact hj.2.1
    have hb := (isChar_iff _).1 hic
    have e : num l j = n := by omega
    rw [fits_eq _ _ hw.2.1 hic, e] at hj
    simpa using hj
  split at hf
  · rename_i h1
    simp only [Option.some.injEq, Prod.mk.injEq] at hf
    exact fin 1 h1 hf.1.symm hf.2.symm
  · split at hf
    · rename_i h2
      simp only [Option.some.injEq, Prod.mk.injEq] at hf
      exact fin 2 h2 hf.1.symm hf.2.symm
    · split at hf
      · rename_i h3
        simp only [Option.some.injEq, Prod.mk.injEq] at hf
        exact fin 3 h3 hf.1.symm hf.2.symm
      · cases hf

/-- A text is the bytes of its characters. -/
theorem text_chars {l : List UInt8} : ∀ {cs : List Nat}, chars l = some cs → text cs = l := by
  generalize hm : l.length = m
  induction m using Nat.strongRecOn generalizing l with
  | ind m ih =>
    intro cs hc
    by_cases h : 0 < l.length
    · obtain ⟨n, k, t, hd, rfl, ht⟩ := chars_some_step h hc
      have hw := dec_width h hd
      have r := ih (l.length - k) (by omega) (l := l.drop k) (by simp) ht
      have e : text (n :: t) = enc (n : Int) ++ text t := by simp [text]
      rw [e, r, dec_take h hd, List.take_append_drop]
    · have : l = [] := List.eq_nil_of_length_eq_zero (by omega)
      subst this
      rw [chars_nil] at hc
      obtain rfl := Option.some.inj hc
      rfl

theorem chars_all {l : List UInt8} {cs : List Nat} (h : chars l = some cs) : allChars cs = true := by
  unfold allChars
  rw [List.all_eq_true]
  exact (chars_len h).2

theorem units_flat (size : Nat) (hs : size = 1 ∨ size = 2) (cs : List Nat) (hc : ∀ c ∈ cs, c ≤ 65535) (h1 : size = 1 → ∀ c ∈ cs, c ≤ 255) : units size (cs.flatMap (cu size)) = cs := by
  induction cs with
  | nil => simp [units]
  | cons c t ih =>
    have i := ih (fun x hx => hc x (List.mem_cons_of_mem _ hx)) (fun e x hx => h1 e x (List.mem_cons_of_mem _ hx))
    have hc0 := hc c (List.mem_cons_self ..)
    rcases hs with rfl | rfl
    · have h10 := h1 rfl c (List.mem_cons_self ..)
      have e : (UInt8.ofNat c).toNat = c := by rw [UInt8.toNat_ofNat']; omega
      rw [List.flatMap_cons]
      rw [show cu 1 c = [UInt8.ofNat c] from rfl, List.singleton_append]
      cases hz : t.flatMap (cu 1) with
      | nil =>
        rw [hz] at i
        simp only [units, if_true] at i ⊢
        rw [e, ← i]
      | cons z y =>
        rw [hz] at i
        simp only [units, if_true] at i ⊢
        rw [e, i]
    · have e : (UInt8.ofNat (c / 256)).toNat = c / 256 := by rw [UInt8.toNat_ofNat']; omega
      have e' : (UInt8.ofNat c).toNat = c % 256 := by rw [UInt8.toNat_ofNat']
      rw [List.flatMap_cons]
      rw [show cu 2 c = [UInt8.ofNat (c / 256), UInt8.ofNat c] from rfl]
      show units 2 (UInt8.ofNat (c / 256) :: UInt8.ofNat c :: t.flatMap (cu 2)) = c :: t
      simp only [units]
      rw [if_neg (by decide), i, e, e']
      congr 1
      omega

theorem flat_cu_len (size : Nat) (hs : size = 1 ∨ size = 2) (cs : List Nat) : (cs.flatMap (cu size)).length = size * cs.length := by
  induction cs with
  | nil => simp
  | cons c t ih =>
    rw [List.flatMap_cons, List.length_append, ih, List.length_cons]
    rcases hs with rfl | rfl
    · simp [cu]; omega
    · simp [cu]; omega

theorem comp_len (size : Nat) (hs : size = 1 ∨ size = 2) (cs : List Nat) : (comp cs size).length = 1 + size * cs.length := by
  unfold comp
  rw [List.length_cons, flat_cu_len size hs]
  omega

theorem squeeze_len_le (cs : List Nat) : (squeeze cs).length ≤ 1 + 2 * cs.length := by
  unfold squeeze
  split
  · simp
  · rw [comp_len _ (wid_or cs)]
    rcases wid_or cs with h | h <;> rw [h] <;> omega

/-- Expanding what was compressed gives the text. -/
theorem expand_squeeze (cs : List Nat) (hc : allChars cs = true) (hl : cs.length ≤ 32767) : expandR (squeeze cs) = (text cs, 0) := by
  unfold squeeze
  split
  · rename_i h
    have : cs = [] := List.eq_nil_of_length_eq_zero h
    subst this
    rfl
  · have hw := wid_or cs
    have hlen := comp_len _ hw cs
    have hcs : ∀ c ∈ cs, c ≤ 65535 := fun c hm => by
      have := isChar_le (List.all_eq_true.1 hc c hm)
      omega
    have hw1 : wid cs = 1 → ∀ c ∈ cs, c ≤ 255 := by
      intro h c hm
      unfold wid at h
      split at h
      · rename_i ha
        simpa using List.all_eq_true.1 ha c hm
      · cases h
    have hu := units_flat (wid cs) hw cs hcs hw1
    have hb : byt (comp cs (wid cs)) 0 = 8 * wid cs := by
      unfold comp byt
      simp only [List.getD_cons_zero]
      rw [UInt8.toNat_ofNat']
      rcases hw with h | h <;> rw [h]
    have hd : (comp cs (wid cs)).drop 1 = cs.flatMap (cu (wid cs)) := rfl
    unfold expandR
    rw [if_neg (by rw [hlen]; rcases hw with h | h <;> rw [h] <;> omega), if_neg (by omega), hb, hd, show 8 * wid cs / 8 = wid cs by omega, hu, if_neg, if_pos hc]
    rcases hw with h | h <;> rw [hlen, h] <;> omega

theorem u8_mod (n : Nat) : UInt8.ofNat (n % 256) = UInt8.ofNat n := by
  apply UInt8.toNat_inj.1
  rw [UInt8.toNat_ofNat', UInt8.toNat_ofNat']
  omega

theorem wid_step (cs : List Nat) (j : Nat) (h : j < cs.length) : wid (cs.take (j + 1)) = if cs.getD j 0 ≤ 255 then wid (cs.take j) else 2 := by
  unfold wid
  rw [List.take_succ_eq_append_getElem h, List.all_append]
  have e : cs.getD j 0 = cs[j] := by simp [List.getD, h]
  rw [e]
  by_cases hc : cs[j] ≤ 255
  · simp [hc]
  · simp [hc]

theorem expandR_units {d : List UInt8} {size : Nat} (hd : d.length ≤ 65536) (h1 : 1 ≤ d.length) (hs : size = 1 ∨ size = 2) (hb : byt d 0 = 8 * size) (hev : (d.length - 1) % size = 0) :
    expandR d = if allChars (units size (d.drop 1)) then (text (units size (d.drop 1)), 0) else ([], 2) := by
  unfold expandR
  rw [if_neg (by omega), if_neg (by omega), if_neg (by rw [hb]; rcases hs with rfl | rfl <;> omega), hb, show 8 * size / 8 = size by omega]

theorem text_textR (cs : List Nat) (hc : allChars cs = true) (hl : cs.length ≤ 21845) : textR (cs.map fun (n : Nat) => (n : Int)) = (text cs, 0) := by
  rw [textR_ok (by simpa using hl)]
  · unfold text
    rw [List.flatMap_map]
  · unfold allChars at hc
    rw [List.all_map]
    exact hc

theorem allChars_take {cs : List Nat} (hc : allChars cs = true) (k : Nat) : allChars (cs.take k) = true := by
  unfold allChars at *
  rw [List.all_eq_true] at *
  exact fun x hx => hc x (List.mem_of_mem_take hx)

theorem text_len (ns : List Nat) : (text ns).length ≤ 3 * ns.length := by
  induction ns with
  | nil => simp [text]
  | cons a t ih =>
    have := enc_len (a : Int)
    have e : text (a :: t) = enc (a : Int) ++ text t := by simp [text]
    rw [e, List.length_append, List.length_cons]
    omega

theorem fitN_yes {cs : List Nat} {size : Int} {n : Nat} (h : ((squeeze (cs.take (n + 1))).length : Int) ≤ size - 1) : fitN cs size (n + 1) = n + 1 := by
  simp only [fitN]
  rw [if_pos h]
theorem fitN_no {cs : List Nat} {size : Int} {n : Nat} (h : ¬ ((squeeze (cs.take (n + 1))).length : Int) ≤ size - 1) : fitN cs size (n + 1) = fitN cs size n := by
  simp only [fitN]
  rw [if_neg h]
theorem fitR_ok {l : List UInt8} {size : Int} (h : (charsR l).2 = 0) (hs : sized size = true) : fitR l size = text ((charsR l).1.take (fitN (charsR l).1 size (min (charsR l).1.length size.toNat))) := if_pos ⟨h, hs⟩
theorem fitR_no {l : List UInt8} {size : Int} (h : ¬ ((charsR l).2 = 0 ∧ sized size = true)) : fitR l size = [] := if_neg h

theorem text_snoc (ns : List Nat) (u : Nat) : text (ns ++ [u]) = text ns ++ enc (u : Int) := by simp [text]

theorem foldl_max (zs : List Int) : ∀ (a b : Int), zs.foldl max a ≤ b ↔ a ≤ b ∧ ∀ z ∈ zs, z ≤ b := by
  induction zs with
  | nil => simp
  | cons z t ih =>
    intro a b
    rw [List.foldl_cons, ih]
    simp only [List.mem_cons, forall_eq_or_imp, Int.max_le, and_assoc]

theorem max_all (cs : List Nat) (h : cs.length ≠ 0) : Lib.maxOf (cs.map fun (n : Nat) => (n : Int)) ≤ 255 ↔ cs.all (fun c => decide (c ≤ 255)) = true := by
  unfold Lib.maxOf
  rw [foldl_max]
  cases cs with
  | nil => exact absurd rfl h
  | cons c t =>
    simp only [List.map_cons, List.headD_cons, List.mem_cons, forall_eq_or_imp, List.mem_map, List.all_cons, Bool.and_eq_true, decide_eq_true_eq, List.all_eq_true]
    constructor
    · rintro ⟨a, _, b⟩
      exact ⟨by omega, fun x hx => by have := b x ⟨x, hx, rfl⟩; omega⟩
    · rintro ⟨a, b⟩
      exact ⟨by omega, by omega, fun z hz => by obtain ⟨x, hx, rfl⟩ := hz; have := b x hx; omega⟩

theorem squeeze_wide {cs : List Nat} (h : cs.length ≠ 0) (hm : ¬ Lib.maxOf (cs.map fun (n : Nat) => (n : Int)) ≤ 255) : squeeze cs = comp cs 2 := by
  have : wid cs = 2 := if_neg (fun x => hm ((max_all cs h).2 x))
  unfold squeeze
  rw [if_neg h, this]
theorem squeeze_narrow {cs : List Nat} (h : cs.length ≠ 0) (hm : Lib.maxOf (cs.map fun (n : Nat) => (n : Int)) ≤ 255) : squeeze cs = comp cs 1 ∧ ∀ c ∈ cs, c ≤ 255 := by
  have ha := (max_all cs h).1 hm
  have : wid cs = 1 := if_pos ha
  unfold squeeze
  rw [if_neg h, this]
  exact ⟨rfl, fun c hc => by simpa using List.all_eq_true.1 ha c hc⟩

theorem compressR_ok {l : List UInt8} {cs : List Nat} (hl : l.length ≤ 65536) (h : chars l = some cs) : compressR l = (squeeze cs, 0) := by
  unfold compressR
  rw [charsR_some hl h]
  simp

theorem compressR_err {l : List UInt8} (h : (charsR l).2 ≠ 0) : compressR l = ([], (charsR l).2) := by
  unfold compressR
  rw [if_neg h]

theorem charsR_zero {l : List UInt8} (h : (charsR l).2 = 0) : l.length ≤ 65536 ∧ chars l = some (charsR l).1 := by
  unfold charsR at h ⊢
  split at h
  · cases h
  · rename_i hl
    rw [if_neg hl]
    cases hc : chars l with
    | none => rw [hc] at h; cases h
    | some cs => exact ⟨by omega, rfl⟩

theorem charsR_err {l : List UInt8} (h : (charsR l).2 ≠ 0) : (charsR l).1 = [] ∧ ((charsR l).2 = 7 ∧ 65536 < l.length ∨ (charsR l).2 = 3 ∧ l.length ≤ 65536) := by
  unfold charsR at h ⊢
  by_cases hl : 65536 < l.length
  · rw [if_pos hl]
    exact ⟨rfl, .inl ⟨rfl, hl⟩⟩
  · rw [if_neg hl] at h ⊢
    cases hc : chars l with
    | none => exact ⟨rfl, .inr ⟨rfl, by omega⟩⟩
    | some cs => rw [hc] at h; exact absurd rfl h
/-- Compressing the text with some characters. -/
theorem compress_text (cs : List Nat) (hc : allChars cs = true) (hl : cs.length ≤ 255) : compressR (text cs) = (squeeze cs, 0) :=
  compressR_ok (by have := text_len cs; omega) (chars_text cs hc)

end Cs
end Go.Proofs.YthkppbimkjmbnaaGreatDoor

/-
  Plain facts about layer 32: what is compressed and put into a field comes back; what Fit returns fits, and one character more would not.
-/
namespace Go.Proofs.YthkppbimkjmbnaaGreatDoor
namespace Cs

theorem sized_iff' (n : Int) : sized n = true ↔ 2 ≤ n ∧ n ≤ 255 := by simp [sized]

/-- The field of a size with a text. -/
theorem dstr_ok {l : List UInt8} {size : Int} (hs : sized size = true) (h : (compressR l).2 = 0) (hf : ¬ size - 1 < (compressR l).1.length) :
    dstrR l size = ((compressR l).1 ++ List.replicate (size.toNat - 1 - (compressR l).1.length) 0 ++ [UInt8.ofNat (compressR l).1.length], 0) := by
  unfold dstrR
  rw [if_neg (by rw [hs]; simp), if_neg (by simpa using h), if_neg hf]
theorem dstr_full {l : List UInt8} {size : Int} (hs : sized size = true) (h : (compressR l).2 = 0) (hf : size - 1 < (compressR l).1.length) : dstrR l size = ([], 12) := by
  unfold dstrR
  rw [if_neg (by rw [hs]; simp), if_neg (by simpa using h), if_pos hf]
theorem fitN_spec (cs : List Nat) (size : Int) (h1 : 0 ≤ size - 1) (n : Nat) : fitN cs size n ≤ n ∧ ((squeeze (cs.take (fitN cs size n))).length : Int) ≤ size - 1 ∧ (fitN cs size n < n → ¬ ((squeeze (cs.take (fitN cs size n + 1))).length : Int) ≤ size - 1) := by
  induction n with
  | zero => exact ⟨Nat.le_refl _, by simpa [fitN, squeeze] using h1, fun h => absurd h (by simp [fitN])⟩
  | succ n ih =>
    by_cases h : ((squeeze (cs.take (n + 1))).length : Int) ≤ size - 1
    · rw [fitN_yes h]
      exact ⟨Nat.le_refl _, h, fun h' => absurd h' (by omega)⟩
    · rw [fitN_no h]
      refine ⟨by omega, ih.2.1, fun hlt => ?_⟩
      by_cases he : fitN cs size n = n
      · rw [he]; exact h
      · exact ih.2.2 (by omega)

theorem squeeze_long (cs : List Nat) (h : cs.length ≠ 0) : cs.length + 1 ≤ (squeeze cs).length := by
  unfold squeeze
  rw [if_neg h, comp_len _ (wid_or cs)]
  rcases wid_or cs with e | e <;> rw [e] <;> omega

/-- What Fit returns of a text: the bytes of some of its characters; they fit, and one more would not. -/
theorem fit_spec {l : List UInt8} {size : Int} (hs : sized size = true) (h : (compressR l).2 = 0) :
    ∃ cs k, chars l = some cs ∧ k ≤ cs.length ∧ fitR l size = text (cs.take k) ∧ (dstrR (text (cs.take k)) size).2 = 0 ∧
      (k < cs.length → dstrR (text (cs.take (k + 1))) size = ([], 12)) := by
  by_cases h0 : (charsR l).2 = 0
  case neg => rw [compressR_err h0] at h; exact absurd h h0
  obtain ⟨hl', hc⟩ := charsR_zero h0
  have hcl := (chars_len hc).1
  have hall := chars_all hc
  obtain ⟨h2, h255⟩ := (sized_iff' size).1 hs
  have hsp := fitN_spec (charsR l).1 size (by omega) (min (charsR l).1.length size.toNat)
  have hk1 := hsp.1
  have hk2 := hsp.2.1
  refine ⟨(charsR l).1, fitN (charsR l).1 size (min (charsR l).1.length size.toNat), hc, by omega, fitR_ok h0 hs, ?_, ?_⟩
  · generalize fitN (charsR l).1 size (min (charsR l).1.length size.toNat) = k at *
    have e := compress_text ((charsR l).1.take k) (allChars_take hall k) (by rw [List.length_take]; omega)
    rw [dstr_ok hs (by rw [e]) (by rw [e]; dsimp only; omega)]
  · generalize hk : fitN (charsR l).1 size (min (charsR l).1.length size.toNat) = k at *
    intro hlt
    have hklt : k < min (charsR l).1.length size.toNat := by
      rcases Nat.lt_or_ge k (min (charsR l).1.length size.toNat) with x | x
      · exact x
      · have hkm : k = size.toNat := by omega
        by_cases hk0 : ((charsR l).1.take k).length = 0
        · rw [List.length_take] at hk0; omega
        · have := squeeze_long _ hk0
          rw [List.length_take] at this
          omega
    have e := compress_text ((charsR l).1.take (k + 1)) (allChars_take hall (k + 1)) (by rw [List.length_take]; omega)
    have hn := hsp.2.2 hklt
    exact dstr_full hs (by rw [e]) (by rw [e]; dsimp only; omega)

end Cs
end Go.Proofs.YthkppbimkjmbnaaGreatDoor

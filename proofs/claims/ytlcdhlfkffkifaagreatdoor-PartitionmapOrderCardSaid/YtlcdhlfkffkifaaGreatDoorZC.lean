/-
  The walks through endian.Little and what it calls.
-/
import Derived.Test.YtlcdhlfkffkifaaGreatDoorZA
import Derived.Deep.OwnRows
import Derived.Deep.RegionWith
import Derived.Lib.EndianBits
import Derived.StillTailTactics
import Derived.Maps.Own
import Derived.Maps.StringElems
import Derived.Test.YtlcdhlfkffkifaaGreatDoorShelf
namespace Go.Proofs.YtlcdhlfkffkifaaGreatDoor
open Go.RowKit
namespace Pm
/-- Does a number fit? -/
def fitsB (n : Int) (k : Nat) : Bool := decide (0 ≤ n) && (decide (k = 8) || decide (n < 256 ^ k))
/-- The sizes that occur. -/
def Sz (k : Nat) : Prop := k = 1 ∨ k = 2 ∨ k = 4 ∨ k = 6 ∨ k = 8
theorem Sz.le {k : Nat} (h : Sz k) : 1 ≤ k ∧ k ≤ 8 := by unfold Sz at h; omega
end Pm

set_option maxHeartbeats 3200000 in
set_option maxRecDepth 100000 in
/-- endian.fits. -/
theorem fits_any (n : Int) (k : Nat) (hk : Pm.Sz k) (w : World) : Calls Tryz.prog 119 #[.int .i64 n, .int .i64 (k : Int)] w fun e w' => e = .returned (.bool (Pm.fitsB n k)) ∧ w = w' := by
  unfold Pm.fitsB
  by_cases h0 : 0 ≤ n
  · rcases hk with rfl | rfl | rfl | rfl | rfl
    all_goals
      go_enter Tryz.func119, Tryz.ntmps119
      go_wp2
      go_ret
      refine ⟨congrArg (fun b => Ending.returned (.bool b)) ?_, rfl⟩
      simp [h0]
  · have h0' : decide (0 ≤ n) = false := by simpa using h0
    rw [h0']
    go_enter Tryz.func119, Tryz.ntmps119
    go_wp2
    go_ret
    exact ⟨rfl, rfl⟩

set_option maxHeartbeats 1600000 in
set_option maxRecDepth 100000 in
/-- endian.check. -/
theorem check_any (n : Int) (k : Nat) (hk : Pm.Sz k) (w : World) : Calls Tryz.prog 98 #[.int .i64 n, .int .i64 (k : Int)] w fun e w' => e = .returned (.int .i64 (if Pm.fitsB n k = true then 0 else 2)) ∧ w = w' := by
  have CF := Lib.hid (fun W => fits_any n k hk W)
  obtain ⟨h1, h8⟩ := hk.le
  generalize Pm.fitsB n k = b at *
  cases b with
  | true =>
    go_enter Tryz.func98, Tryz.ntmps98
    go_wp2_with fail
    with_reducible refine (CF.out _).mono ?_
    rintro e w2 ⟨rfl, rfl⟩
    go_wp2_with fail
    go_ret
    exact ⟨rfl, rfl⟩
  | false =>
    go_enter Tryz.func98, Tryz.ntmps98
    go_wp2_with fail
    with_reducible refine (CF.out _).mono ?_
    rintro e w2 ⟨rfl, rfl⟩
    go_wp2_with fail
    go_ret
    exact ⟨rfl, rfl⟩

theorem up_any (z : Int) (w : World) : Calls Tryz.prog 89 #[.int .i64 z] w fun e w' => e = .returned (.func (.func 108) #[] #[]) ∧ w = w' := by
  go_enter Tryz.func89, Tryz.ntmps89
  go_wp2
  go_ret
  exact ⟨rfl, rfl⟩
theorem up1_any (z : Int) (w : World) : Calls Tryz.prog 108 #[.int .i64 z] w fun e w' => e = .returned (.int .i64 z) ∧ w = w' := by
  go_enter Tryz.func108, Tryz.ntmps108
  go_wp2
  go_ret
  exact ⟨rfl, rfl⟩
end Go.Proofs.YtlcdhlfkffkifaaGreatDoor

/-
  The walks through endian.write and Little.
-/
namespace Go.Proofs.YtlcdhlfkffkifaaGreatDoor
open Go.RowKit
namespace Pm
/-- The byte with the weight 256^i. -/
def byteAt (n i : Nat) : Nat := n / 256 ^ i % 256
theorem le_get (k n i : Nat) (h : i < k) : (le k n)[i]? = some (UInt8.ofNat (byteAt n i)) := by
  induction k generalizing n i with
  | zero => omega
  | succ k ih =>
    cases i with
    | zero =>
      simp only [le, List.getElem?_cons_zero, byteAt, Nat.pow_zero, Nat.div_one]
      congr 1
      apply UInt8.toNat_inj.1
      simp [UInt8.toNat_ofNat']
    | succ i =>
      simp only [le, List.getElem?_cons_succ]
      rw [ih (n / 256) i (by omega)]
      unfold byteAt
      rw [Nat.div_div_eq_div_mul, Nat.pow_succ, Nat.mul_comm 256]
theorem byte_shift (n j : Nat) : IntKind.u8.wrap ((n : Int) / 2 ^ (8 * (j : Int)).toNat) = (byteAt n j : Nat) := by
  rw [show (8 * (j : Int)).toNat = 8 * j by omega, IntKind.wrap_u8]
  unfold byteAt
  rw [show (256 : Nat) ^ j = 2 ^ (8 * j) by rw [Nat.pow_mul]]
  simp only [Int.natCast_emod, Int.natCast_ediv, Int.natCast_pow]
  rfl
end Pm

set_option maxHeartbeats 3200000 in
set_option maxRecDepth 100000 in
/-- endian.write. -/
theorem write_any (n : Nat) (k : Nat) (hk : k ≤ 8) (w : World) :
    Calls Tryz.prog 99 #[.int .i64 (n : Int), .int .i64 (k : Int), .func (.func 108) #[] #[]] w fun e w' => e = .returned (.string ⟨(Pm.le k n).toArray⟩) ∧ Below w.heap.size w w' := by
  have hmk := run_make_row' (P := Tryz.prog) 111 5 (.int .u8 0) 1 Tryz.underlying111 byteInfo rfl .i64 .i64 k (by omega) (by omega)
  go_enter Tryz.func99, Tryz.ntmps99
  go_wp2_with fail
  go_loopw [8, 12] (fun _ iv wr => ∃ j : Nat, j ≤ k ∧ iv = .int .i64 j ∧ wr.rowIs w.heap.size 5 k (fun i => .int .u8 (if i < j then (Pm.byteAt n i : Nat) else 0 : Nat)) ∧ Below w.heap.size w wr) (fun _ iv _ => k - (intOf iv).toNat)
  case atStart => exact ⟨0, by omega, rfl, (World.rowIs_made w (.int .u8 0) k 5).congr (fun i _ => by simp), (Below.refl _ _).alloc (Nat.le_refl _) _⟩
  case round =>
    obtain ⟨j, hj, rfl, hrow, hbw⟩ := hrel
    by_cases hlt : j < k
    · have hc := hrow.cell hlt
      have hf := hrow.frozen j
      have y1 : IntKind.i64.wrap (8 * (j : Int)) = 8 * (j : Int) := IntWalk.i64_in _ (by omega)
      have hk' : (k : Int) ≤ 8 := by omega
      have hlt' : (j : Int) < (k : Int) := by omega
      go_wp2_with fail
      go_region_with (go_at_call 108; refine (up1_any _ _).mono ?_; rintro e w2 ⟨rfl, rfl⟩)
      rw [Pm.byte_shift n j]
      have hset := hrow.set j (.int .u8 (Pm.byteAt n j : Nat))
      have HS := Lib.hid hset
      have HB := Lib.hid ((hbw.setCell (p := ⟨w.heap.size, j, none⟩) (Nat.le_refl _) (.int .u8 (Pm.byteAt n j : Nat))).drew)
      clear hset hrow hbw hc hf
      generalize hx : Pm.byteAt n j = x at *
      have HX := Lib.hid hx
      clear hx
      go_wp2_with fail
      go_roundw
      case rel => exact ⟨j + 1, by omega, by go_num, HS.out.drew.congr (fun i hi => by
        by_cases hij : i = j
        · subst hij; rw [HX.out]; simp
        · by_cases h2 : i < j
          · have : i < j + 1 := by omega
            simp [hij, h2, this]
          · have : ¬ i < j + 1 := by omega
            simp [hij, h2, this]), HB.out⟩
      case measure => simp [intOf]; omega
    · obtain rfl : j = k := by omega
      have hcv := run_convert_bytes_back (P := Tryz.prog) wr 111 9 5 ⟨w.heap.size, 0, none⟩ j (Pm.le j n) Tryz.underlying111 Tryz.underlying5 Tryz.underlying9 (fun i hi => by
        rw [Pm.le_len] at hi
        rw [Addr.add_lit, Nat.zero_add, hrow.cell hi, if_pos hi]
        have := Pm.le_get j n i hi
        have hi' : i < (Pm.le j n).length := by rw [Pm.le_len]; exact hi
        rw [List.getElem?_eq_getElem hi', Option.some.injEq] at this
        rw [this, UInt8.toNat_ofNat']
        congr 3
        unfold Pm.byteAt
        omega)
      rw [Pm.le_len] at hcv
      go_wp2_with fail
      go_ret
      exact ⟨rfl, hbw⟩
end Go.Proofs.YtlcdhlfkffkifaaGreatDoor

/-
  The walks through Little, ReadLittle and the functions around them.
-/
namespace Go.Proofs.YtlcdhlfkffkifaaGreatDoor
open Go.RowKit
namespace Pm
/-- Little. -/
def leR (n : Int) (k : Nat) : List UInt8 := if fitsB n k = true then le k n.toNat else []
/-- ReadLittle. -/
def readR (s : List UInt8) (a : Int) (k : Nat) : Int × Int :=
  if a < 0 ∨ (s.length : Int) - k < a then (0, 2) else if 9223372036854775807 < at_ s a.toNat k then (0, 7) else ((at_ s a.toNat k : Nat), 0)
theorem at_succ (s : List UInt8) (a j : Nat) (h : a + j < s.length) : at_ s a (j + 1) = at_ s a j + 256 ^ j * Cs.byt s (a + j) := by
  unfold at_
  have hd : j < (s.drop a).length := by rw [List.length_drop]; omega
  rw [List.take_succ_eq_append_getElem hd, num_append, List.length_take, Nat.min_eq_left (by omega)]
  congr 2
  unfold Cs.byt
  simp only [num, List.getElem_drop, List.getD, List.getElem?_eq_getElem h, Option.getD_some]
  omega
theorem pow8 (j : Nat) : (2 : Nat) ^ (8 * j) = 256 ^ j := by rw [Nat.pow_mul]
theorem or_byte (N b j : Nat) (hj : j < 8) (hN : N < 256 ^ j) (hb : b < 256) : bits BinOp.or IntKind.u64 (N : Int) (IntKind.u64.wrap (IntKind.u64.wrap (b : Int) * 2 ^ (8 * j))) = ((N + 256 ^ j * b : Nat) : Int) := by
  rw [wraps_u64 (b : Int) (by omega) (by omega)]
  have hp : ((2 : Int) ^ (8 * j)) = ((256 ^ j : Nat) : Int) := by rw [← pow8, Int.natCast_pow]; rfl
  have hpj : 256 ^ j ≤ 256 ^ 7 := Nat.pow_le_pow_right (by decide) (by omega)
  have hbp : b * 256 ^ j ≤ 255 * 256 ^ 7 := Nat.mul_le_mul (by omega) hpj
  have hx : ((b : Int) * 2 ^ (8 * j)) = ((b * 256 ^ j : Nat) : Int) := by rw [hp, Int.natCast_mul]
  have hlt : b * 256 ^ j < 2 ^ 64 := Nat.lt_of_le_of_lt hbp (by decide)
  rw [hx, wraps_u64 _ (by omega) (by exact_mod_cast hlt)]
  have hN' : N < 2 ^ 64 := Nat.lt_of_lt_of_le hN (Nat.le_trans hpj (by decide))
  rw [bits_join_low .u64 64 (by decide) wraps_u64 (8 * j) (N : Int) ((b * 256 ^ j : Nat) : Int) (by omega) (by rw [hp]; exact_mod_cast hN) (by exact_mod_cast hN') (by omega) (by
    rw [hp]; exact_mod_cast Nat.mul_mod_left b (256 ^ j)) (by exact_mod_cast hlt)]
  rw [Nat.mul_comm b, ← Int.natCast_add]
end Pm

set_option maxHeartbeats 1600000 in
set_option maxRecDepth 100000 in
/-- endian.Little. -/
theorem little_any (n : Int) (k : Nat) (hk : Pm.Sz k) (w : World) : Calls Tryz.prog 76 #[.int .i64 n, .int .i64 (k : Int)] w fun e w' => e = .returned (.tuple #[.string ⟨(Pm.leR n k).toArray⟩, .int .i64 (if Pm.fitsB n k = true then 0 else 2)]) ∧ Below w.heap.size w w' := by
  have CF := Lib.hid (fun W => check_any n k hk W)
  cases hb : Pm.fitsB n k with
  | false =>
    have HR := Lib.hid (show Pm.leR n k = [] by unfold Pm.leR; rw [hb]; rfl)
    rw [hb] at CF
    clear hb
    go_enter Tryz.func76, Tryz.ntmps76
    go_wp2_with fail
    with_reducible refine (CF.out _).mono ?_
    rintro e w2 ⟨rfl, rfl⟩
    go_wp2_with fail
    go_ret2
    rw [HR.out]
    exact ⟨rfl, Below.refl _ _⟩
  | true =>
    have HR := Lib.hid (show Pm.leR n k = Pm.le k n.toNat by unfold Pm.leR; rw [hb]; rfl)
    have h0 : 0 ≤ n := by unfold Pm.fitsB at hb; simp at hb; exact hb.1
    rw [hb] at CF
    clear hb
    obtain ⟨n, rfl⟩ := Int.eq_ofNat_of_zero_le h0
    rw [Int.toNat_natCast] at HR
    have CW := Lib.hid (fun W => write_any n k hk.le.2 W)
    generalize Pm.le k n = r at *
    clear h0 hk
    go_enter Tryz.func76, Tryz.ntmps76
    go_wp2_with fail
    with_reducible refine (CF.out _).mono ?_
    rintro e w2 ⟨rfl, rfl⟩
    go_wp2_with fail
    with_reducible refine (up_any _ _).mono ?_
    rintro e w2 ⟨rfl, rfl⟩
    go_wp2_with fail
    with_reducible refine (CW.out _).mono ?_
    rintro e w2 ⟨rfl, hb2⟩
    go_wp2_with fail
    go_ret2
    rw [HR.out]
    exact ⟨rfl, hb2⟩

set_option maxHeartbeats 1600000 in
set_option maxRecDepth 100000 in
/-- partitionmap.little. -/
theorem pLittle_any (n : Int) (k : Nat) (hk : Pm.Sz k) (w : World) : Calls Tryz.prog 50 #[.int .i64 n, .int .i64 (k : Int)] w fun e w' => e = .returned (.string ⟨(Pm.leR n k).toArray⟩) ∧ Below w.heap.size w w' := by
  have CL := Lib.hid (fun W => little_any n k hk W)
  generalize Pm.leR n k = r at *
  generalize (if Pm.fitsB n k = true then (0 : Int) else 2) = er at *
  go_enter Tryz.func50, Tryz.ntmps50
  go_wp2_with fail
  with_reducible refine (CL.out _).mono ?_
  rintro e w2 ⟨rfl, hb2⟩
  go_wp2_with fail
  go_ret
  exact ⟨rfl, hb2⟩

set_option maxHeartbeats 1600000 in
set_option maxRecDepth 100000 in
/-- endian.inside. -/
theorem inside_any (s : ByteArray) (a : Int) (k : Nat) (hk : Pm.Sz k) (hs : s.size ≤ 9223372036854775807) (w : World) : Calls Tryz.prog 107 #[.string s, .int .i64 a, .int .i64 (k : Int)] w fun e w' => e = .returned (.bool (decide (0 ≤ a) && decide (a ≤ (s.size : Int) - k))) ∧ w = w' := by
  obtain ⟨h1, h8⟩ := hk.le
  by_cases h0 : 0 ≤ a
  · go_enter Tryz.func107, Tryz.ntmps107
    go_wp2
    go_ret
    refine ⟨congrArg (fun b => Ending.returned (.bool b)) ?_, rfl⟩
    simp [h0]
  · have h0' : decide (0 ≤ a) = false := by simpa using h0
    rw [h0']
    go_enter Tryz.func107, Tryz.ntmps107
    go_wp2
    go_ret
    exact ⟨rfl, rfl⟩

set_option maxHeartbeats 3200000 in
set_option maxRecDepth 100000 in
/-- endian.read of a little-endian number. -/
theorem read_any (s : ByteArray) (a : Int) (k : Nat) (hk : Pm.Sz k) (hs : s.size ≤ 9223372036854775807) (w : World) : Calls Tryz.prog 88 #[.string s, .int .i64 a, .int .i64 (k : Int), .func (.func 108) #[] #[]] w fun e w' => e = .returned (.tuple #[.int .i64 (Pm.readR s.data.toList a k).1, .int .i64 (Pm.readR s.data.toList a k).2]) ∧ w = w' := by
  obtain ⟨h1, h8⟩ := hk.le
  have CI := Lib.hid (fun W => inside_any s a k hk hs W)
  have hdl := Kit.len_size s
  by_cases hin : 0 ≤ a ∧ a ≤ (s.size : Int) - k
  case neg =>
    have HR := Lib.hid (show Pm.readR s.data.toList a k = (0, 2) from if_pos (by omega))
    rw [show (decide (0 ≤ a) && decide (a ≤ (s.size : Int) - k)) = false by rw [Bool.and_eq_false_iff]; simp; omega] at CI
    clear hin hdl
    go_enter Tryz.func88, Tryz.ntmps88
    go_wp2_with fail
    with_reducible refine (CI.out _).mono ?_
    rintro e w2 ⟨rfl, rfl⟩
    go_wp2_with fail
    go_ret2
    rw [HR.out]
    exact ⟨rfl, rfl⟩
  case pos =>
  obtain ⟨ha0, ha1⟩ := hin
  rw [show (decide (0 ≤ a) && decide (a ≤ (s.size : Int) - k)) = true by rw [Bool.and_eq_true]; simp; omega] at CI
  obtain ⟨a, rfl⟩ := Int.eq_ofNat_of_zero_le ha0
  have hR : Pm.readR s.data.toList (a : Int) k = if 9223372036854775807 < Pm.at_ s.data.toList a k then ((0, 7) : Int × Int) else (((Pm.at_ s.data.toList a k : Nat) : Int), 0) := by
    unfold Pm.readR
    rw [if_neg (by omega), Int.toNat_natCast]
  have HR := Lib.hid hR
  have hak : a + k ≤ s.size := by omega
  clear hR hdl ha0 ha1
  go_enter Tryz.func88, Tryz.ntmps88
  go_wp2_with fail
  with_reducible refine (CI.out _).mono ?_
  rintro e w2 ⟨rfl, rfl⟩
  go_wp2_with fail
  go_loop [10, 11, 26] (fun nv _ iv => ∃ j : Nat, j ≤ k ∧ iv = .int .i64 j ∧ nv = .int .u64 (Pm.at_ s.data.toList a j : Nat)) (fun _ _ iv => k - (intOf iv).toNat)
  case atStart => exact ⟨0, by omega, rfl, by simp [Pm.at_, Pm.num]⟩
  case round =>
    obtain ⟨j, hj, rfl, rfl⟩ := hrel
    by_cases hlt : j < k
    · have hb := Kit.byt_get s (a + j) (by omega)
      have hix : a + j < s.size := by omega
      go_wp2_with fail
      with_reducible refine (up1_any _ _).mono ?_
      rintro e w2 ⟨rfl, rfl⟩
      go_wp2_with fail
      have hsl : a + j < s.data.toList.length := by rw [Kit.len_size]; exact hix
      rw [Pm.or_byte _ _ j (by omega) (Pm.at_lt _ _ _) (Cs.byt_lt _ _), ← Pm.at_succ _ _ _ hsl]
      go_round
      case rel => exact ⟨j + 1, by omega, by go_num, rfl⟩
      case measure => simp [intOf]; omega
    · obtain rfl : j = k := by omega
      by_cases hbig : 9223372036854775807 < Pm.at_ s.data.toList a j
      · have HR' := Lib.hid (HR.out.trans (if_pos hbig))
        generalize Pm.at_ s.data.toList a j = x at *
        have hbig' : (9223372036854775807 : Int) < (x : Int) := by omega
        go_wp2_with fail
        go_ret2
        rw [HR'.out]
        exact ⟨rfl, rfl⟩
      · have HR' := Lib.hid (HR.out.trans (if_neg hbig))
        generalize Pm.at_ s.data.toList a j = x at *
        have hbig' : (x : Int) ≤ 9223372036854775807 := by omega
        have hbig2 : ¬ (9223372036854775807 : Int) < (x : Int) := by omega
        go_wp2_with fail
        go_ret2
        rw [HR'.out]
        exact ⟨rfl, rfl⟩

set_option maxHeartbeats 1600000 in
set_option maxRecDepth 100000 in
/-- endian.ReadLittle. -/
theorem readLittle_any (s : ByteArray) (a : Int) (k : Nat) (hk : Pm.Sz k) (hs : s.size ≤ 9223372036854775807) (w : World) : Calls Tryz.prog 60 #[.string s, .int .i64 a, .int .i64 (k : Int)] w fun e w' => e = .returned (.tuple #[.int .i64 (Pm.readR s.data.toList a k).1, .int .i64 (Pm.readR s.data.toList a k).2]) ∧ w = w' := by
  have CR := Lib.hid (fun W => read_any s a k hk hs W)
  generalize (Pm.readR s.data.toList a k).1 = r1 at *
  generalize (Pm.readR s.data.toList a k).2 = r2 at *
  clear hk hs
  go_enter Tryz.func60, Tryz.ntmps60
  go_wp2_with fail
  with_reducible refine (up_any _ _).mono ?_
  rintro e w2 ⟨rfl, rfl⟩
  go_wp2_with fail
  with_reducible refine (CR.out _).mono ?_
  rintro e w2 ⟨rfl, rfl⟩
  go_wp2_with fail
  go_ret2
  exact ⟨rfl, rfl⟩
end Go.Proofs.YtlcdhlfkffkifaaGreatDoor

/-
  The map of identifiers: made, looked up.
-/
namespace Go.Proofs.YtlcdhlfkffkifaaGreatDoor
open Go.RowKit Go.Maps
namespace Kit
/-- A store of a map's literal. -/
theorem wpList_insert_own {H : Type} {P : Program} (w : World) {ops : Array Oper} {rest : List Oper} {o : Oper} {a : Act} {Q : Exit → Act → World → Prop}
    (hg : o.guard = none) (m x v : Operand) (t : TypeId) (hop : o.op = Op.insert t m x v)
    (k e : TypeId) (K : Keyed P k) (ht : P.underlying t = some (.map k e)) (R : Value → Option (DataW H × List MemPlace)) (b n : Nat) (D : DataW H)
    (hm : a.eval m = .map (some b)) (hown : w.ownsMap P k R b n D) (hn : n < maxLen) (key val : Value) (kl : Lit) (hx : a.eval x = key) (hv : a.eval v = val) (hkey : keyOf P k key = some kl)
    (d : DataW H) (ps : List MemPlace) (hval : R val = some (d, ps))
    (hK : ∀ w', w'.ownsMap P k R b (n + 1) (D.put kl d) → w.grownBy w' (some b) → wpList P ops Q rest (a.put o.dst undef) w') :
    wpList P ops Q (o :: rest) a w := by
  refine wpList_plain hg fun K' hK' => ?_
  obtain ⟨w', hrun, r1, r2⟩ := hown.update K ht hn hkey hval
  unfold Oper.wp
  simp [execOp, hop, hm, hx, hv, hrun, Result.andThen]
  exact hK' _ _ (hK w' r1 r2)
end Kit

theorem keyedInt : Keyed Tryz.prog 3 := int_keyed Tryz.underlying3
abbrev SMap (w : World) (b n : Nat) (D : DataW Unit) : Prop := w.ownsMap Tryz.prog 3 (plainElem Tryz.prog 9) b n D
/-- What the map of identifiers reads as. -/
def idD : DataW Unit := (((DataW.map []).put (.int .i64 1) (.lit (.string Pm.nameV))).put (.int .i64 2) (.lit (.string Pm.nameS))).put (.int .i64 3) (.lit (.string Pm.nameM))

theorem elemS (l : List UInt8) (h : l.length ≤ maxLen) : plainElem (H := Unit) Tryz.prog 9 (.string ⟨l.toArray⟩) = some (.lit (.string l), []) := by
  have := plainElem_string (H := Unit) (P := Tryz.prog) (e := 9) Tryz.underlying9 (s := ⟨l.toArray⟩) (by simpa [ByteArray.size] using h)
  simpa using this
theorem smap_below {w w' : World} {b n : Nat} {D : DataW Unit} (h : SMap w b n D) (hb : Below w.heap.size w w') : SMap w' b n D := h.kept (Kit.grown_of_below hb) (by simp)

set_option maxHeartbeats 1600000 in
set_option maxRecDepth 100000 in
/-- partitionmap.identifiers. -/
theorem identifiers_any (w : World) : Calls Tryz.prog 52 #[] w fun e w' => ∃ b, e = .returned (.map (some b)) ∧ w.heap.size ≤ b ∧ SMap w' b 3 idD ∧ Below w.heap.size w w' := by
  have hmm := @run_makeMap Tryz.prog
  have h0 : SMap (w.alloc (.map #[] 0)) w.heap.size 0 (.map []) := World.ownsMap_made _ _ _ _
  have H0 := Lib.hid h0
  clear h0
  go_enter Tryz.func52, Tryz.ntmps52
  go_wp2_with (refine Kit.wpList_insert_own _ rfl (.tmp 1) _ _ _ rfl 3 9 keyedInt (by kernel_rfl) _ w.heap.size 0 _ rfl H0.out (by unfold maxLen; omega) (.int .i64 1) (.string ⟨Pm.nameV.toArray⟩) (.int .i64 1) rfl rfl (keyOf_int_mk Tryz.underlying3 (by decide)) _ [] (elemS Pm.nameV (by decide)) ?_)
  intro w1 hown1 hg1
  have H1 := Lib.hid hown1
  clear hown1
  go_wp2_with (refine Kit.wpList_insert_own _ rfl (.tmp 1) _ _ _ rfl 3 9 keyedInt (by kernel_rfl) _ w.heap.size 1 _ rfl H1.out (by unfold maxLen; omega) (.int .i64 2) (.string ⟨Pm.nameS.toArray⟩) (.int .i64 2) rfl rfl (keyOf_int_mk Tryz.underlying3 (by decide)) _ [] (elemS Pm.nameS (by decide)) ?_)
  intro w2 hown2 hg2
  have H2 := Lib.hid hown2
  clear hown2
  go_wp2_with (refine Kit.wpList_insert_own _ rfl (.tmp 1) _ _ _ rfl 3 9 keyedInt (by kernel_rfl) _ w.heap.size 2 _ rfl H2.out (by unfold maxLen; omega) (.int .i64 3) (.string ⟨Pm.nameM.toArray⟩) (.int .i64 3) rfl rfl (keyOf_int_mk Tryz.underlying3 (by decide)) _ [] (elemS Pm.nameM (by decide)) ?_)
  intro w3 hown3 hg3
  have H3 := Lib.hid hown3
  clear hown3
  have hb : Below w.heap.size w w3 := ((((Below.refl _ w).alloc (Nat.le_refl _) _).grown hg1 (by simp) (by simp)).grown hg2 (by have := hg1.size; simp at this; omega) (by simp)).grown hg3 (by have := hg1.size; have := hg2.size; simp at *; omega) (by simp)
  clear hg1 hg2 hg3
  go_wp2_with fail
  go_ret
  exact ⟨_, rfl, Nat.le_refl _, H3.out, hb⟩

/-- What the map holds at a kind. -/
theorem id_at (k : Int) (w : World) (b : Nat) (h : SMap w b 3 idD) (hw : (Lit.int .i64 k).wf = true) : (Instr.lookup 85 (.map (some b)) (.int .i64 k) false).run Tryz.prog w = .ok (.string ⟨(if k = 1 then Pm.nameV else if k = 2 then Pm.nameS else if k = 3 then Pm.nameM else []).toArray⟩) w := by
  have hz : (zeroValue 9).run Tryz.prog w = .ok (.string ⟨#[]⟩) w := by kernel_rfl
  obtain ⟨v, ps, hrun, hv⟩ := World.ownsMap.lookup h keyedInt (by kernel_rfl) hz (elemS [] (by decide)) (keyOf_int_mk Tryz.underlying3 hw)
  obtain ⟨s, rfl, hs, _⟩ := plainElem_string_inv Tryz.underlying9 hv
  rw [hrun]
  have hd : idD.atKey (.int .i64 k) (.lit (.string [])) = .lit (.string (if k = 1 then Pm.nameV else if k = 2 then Pm.nameS else if k = 3 then Pm.nameM else [])) := by
    have e : idD = .map [(.int .i64 1, .lit (.string Pm.nameV)), (.int .i64 2, .lit (.string Pm.nameS)), (.int .i64 3, .lit (.string Pm.nameM))] := rfl
    rw [e]
    by_cases h1 : k = 1
    · subst h1; rfl
    · by_cases h2 : k = 2
      · subst h2; rfl
      · by_cases h3 : k = 3
        · subst h3; rfl
        · rw [if_neg h1, if_neg h2, if_neg h3]
          simp [DataW.atKey, List.find?, Lit.sameKey, Ne.symm h1, Ne.symm h2, Ne.symm h3]
  rw [hd] at hs
  simp only [Prod.mk.injEq, DataW.lit.injEq, Lit.string.injEq] at hs
  rw [hs.1]
end Go.Proofs.YtlcdhlfkffkifaaGreatDoor

/-
  The map of kinds: made, looked up; a map whose elements are read as they are.
-/
namespace Go.Proofs.YtlcdhlfkffkifaaGreatDoor
open Go.RowKit Go.Maps
namespace Kit
/-- A slice's own cells, all of them integers. -/
def Cl (w : World) (b : Nat) (l : List Int) : Prop := b < w.heap.size ∧ ∀ (i : Nat) (v : Value), (izs l)[i]? = some v → w.cell? ⟨b, i, none⟩ = some v
theorem Cl.grown {w w' : World} {b : Nat} {l : List Int} {row : Option Nat} (h : Cl w b l) (hg : w.grownBy w' row) (hne : some b ≠ row) : Cl w' b l :=
  ⟨Nat.lt_of_lt_of_le h.1 hg.size, fun i v hv => hg.cell (h.2 i v hv) hne⟩
theorem Cl.below {w w' : World} {b : Nat} {l : List Int} (h : Cl w b l) (hb : Below w.heap.size w w') : Cl w' b l := h.grown (grown_of_below hb) (by simp)
theorem Cl.new (w : World) (l : List Int) (T : TypeId) : Cl (w.alloc (.cells (izs l).toArray T)) w.heap.size l :=
  ⟨by simp, fun i v hv => by
    rw [World.cell?_alloc_at _ _ _ _ (by simp)]
    simpa using hv⟩
theorem Cl.row {w : World} {b : Nat} {l : List Int} (h : Cl w b l) (hl : l.length ≤ maxLen) : Row w (.slice (some ⟨b, 0, none⟩) l.length l.length) (izs l) := by
  refine ⟨some ⟨b, 0, none⟩, l.length, by rw [izs_length], by rw [izs_length]; exact Nat.le_refl _, hl, ?_⟩
  intro hne
  exact ⟨b, 0, rfl, h.1, fun j u hu => by rw [Nat.zero_add]; exact h.2 j u hu⟩
end Kit
/-- A map's elements, read as they are. -/
def asIs (v : Value) : Option (DataW Value × List MemPlace) := some (.held v, [])
abbrev VMap (w : World) (b n : Nat) (D : DataW Value) : Prop := w.ownsMap Tryz.prog 3 asIs b n D
theorem vmap_below {w w' : World} {b n : Nat} {D : DataW Value} (h : VMap w b n D) (hb : Below w.heap.size w w') : VMap w' b n D := h.kept (Kit.grown_of_below hb) (by simp)
def four4 (v0 v1 v2 v3 : Value) : DataW Value := ((((DataW.map []).put (.int .i64 0) (.held v0)).put (.int .i64 1) (.held v1)).put (.int .i64 2) (.held v2)).put (.int .i64 3) (.held v3)
theorem four4_at (v0 v1 v2 v3 z : Value) (k : Int) : (four4 v0 v1 v2 v3).atKey (.int .i64 k) (.held z) = .held (if k = 0 then v0 else if k = 1 then v1 else if k = 2 then v2 else if k = 3 then v3 else z) := by
  have e : four4 v0 v1 v2 v3 = .map [(.int .i64 0, .held v0), (.int .i64 1, .held v1), (.int .i64 2, .held v2), (.int .i64 3, .held v3)] := rfl
  rw [e]
  by_cases h0 : k = 0
  · subst h0; rfl
  · by_cases h1 : k = 1
    · subst h1; rfl
    · by_cases h2 : k = 2
      · subst h2; rfl
      · by_cases h3 : k = 3
        · subst h3; rfl
        · rw [if_neg h0, if_neg h1, if_neg h2, if_neg h3]
          simp [DataW.atKey, List.find?, Lit.sameKey, Ne.symm h0, Ne.symm h1, Ne.symm h2, Ne.symm h3]
/-- A lookup in a map of four. -/
theorem four4_look {t e : TypeId} (ht : Tryz.prog.underlying t = some (.map 3 e)) (v0 v1 v2 v3 z : Value) (k : Int) (w : World) (b n : Nat) (h : VMap w b n (four4 v0 v1 v2 v3)) (hw : (Lit.int .i64 k).wf = true) (hz : (zeroValue e).run Tryz.prog w = .ok z w) :
    (Instr.lookup t (.map (some b)) (.int .i64 k) false).run Tryz.prog w = .ok (if k = 0 then v0 else if k = 1 then v1 else if k = 2 then v2 else if k = 3 then v3 else z) w := by
  obtain ⟨v, ps, hrun, hv⟩ := World.ownsMap.lookup h keyedInt ht hz (show asIs z = some (.held z, []) from rfl) (keyOf_int_mk Tryz.underlying3 hw)
  rw [hrun]
  rw [four4_at] at hv
  unfold asIs at hv
  simp only [Option.some.injEq, Prod.mk.injEq, DataW.held.injEq] at hv
  rw [hv.1]

def slV (b n : Nat) : Value := .slice (some ⟨b, 0, none⟩) n n

set_option maxHeartbeats 3200000 in
set_option maxRecDepth 100000 in
/-- partitionmap.kinds. -/
theorem kinds_any (w : World) : Calls Tryz.prog 34 #[] w fun e w' => ∃ b b0 b1 b2 b3, e = .returned (.map (some b)) ∧ w.heap.size ≤ b ∧ w.heap.size ≤ b0 ∧ w.heap.size ≤ b1 ∧ w.heap.size ≤ b2 ∧ w.heap.size ≤ b3 ∧ VMap w' b 4 (four4 (slV b0 1) (slV b1 2) (slV b2 1) (slV b3 2)) ∧ Kit.Cl w' b0 [0] ∧ Kit.Cl w' b1 [0, 1] ∧ Kit.Cl w' b2 [2] ∧ Kit.Cl w' b3 [0, 3] ∧ Below w.heap.size w w' := by
  have hmm := @run_makeMap Tryz.prog
  have h0 : VMap (w.alloc (.map #[] 0)) w.heap.size 0 (.map []) := World.ownsMap_made _ _ _ _
  have H0 := Lib.hid (h0.alloc (.cells #[.int .i64 0] 3))
  clear h0
  go_enter Tryz.func34, Tryz.ntmps34
  go_wp2_with (refine Kit.wpList_insert_own _ rfl (.tmp 1) _ _ _ rfl 3 32 keyedInt (by kernel_rfl) _ w.heap.size 0 _ rfl H0.out (by unfold maxLen; omega) (.int .i64 0) _ (.int .i64 0) rfl rfl (keyOf_int_mk Tryz.underlying3 (by decide)) _ [] rfl ?_)
  intro w1 hown1 hg1
  have k0 : Kit.Cl w1 (w.heap.size + 1) [0] := by
    have h := (Kit.Cl.new (w.alloc (.map #[] 0)) [0] 3).grown hg1 (by simp)
    rw [show (w.alloc (.map #[] 0)).heap.size = w.heap.size + 1 by simp] at h
    exact h
  have hb1 : Below w.heap.size w w1 := (((Below.refl _ w).alloc (Nat.le_refl _) _).alloc (by simp) _).grown hg1 (by simp; omega) (by simp)
  have s1 : w.heap.size + 2 ≤ w1.heap.size := by have := hg1.size; simp at this; omega
  have H1 := Lib.hid (hown1.alloc (.cells #[.int .i64 0, .int .i64 1] 3))
  clear hown1 hg1
  go_wp2_with (refine Kit.wpList_insert_own _ rfl (.tmp 1) _ _ _ rfl 3 32 keyedInt (by kernel_rfl) _ w.heap.size 1 _ rfl H1.out (by unfold maxLen; omega) (.int .i64 1) _ (.int .i64 1) rfl rfl (keyOf_int_mk Tryz.underlying3 (by decide)) _ [] rfl ?_)
  intro w2 hown2 hg2
  have k1 := (Kit.Cl.new w1 [0, 1] 3).grown hg2 (by simp; omega)
  have k0 := (k0.below ((Below.refl _ w1).alloc (Nat.le_refl _) _)).grown hg2 (by simp)
  have hb2 : Below w.heap.size w w2 := (hb1.alloc hb1.size _).grown hg2 (by simp; omega) (by simp)
  have s2 : w1.heap.size + 1 ≤ w2.heap.size := by have := hg2.size; simp at this; omega
  have H2 := Lib.hid (hown2.alloc (.cells #[.int .i64 2] 3))
  clear hown2 hg2 hb1
  go_wp2_with (refine Kit.wpList_insert_own _ rfl (.tmp 1) _ _ _ rfl 3 32 keyedInt (by kernel_rfl) _ w.heap.size 2 _ rfl H2.out (by unfold maxLen; omega) (.int .i64 2) _ (.int .i64 2) rfl rfl (keyOf_int_mk Tryz.underlying3 (by decide)) _ [] rfl ?_)
  intro w3 hown3 hg3
  have k2 := (Kit.Cl.new w2 [2] 3).grown hg3 (by simp; omega)
  have k1 := (k1.below ((Below.refl _ w2).alloc (Nat.le_refl _) _)).grown hg3 (by simp; omega)
  have k0 := (k0.below ((Below.refl _ w2).alloc (Nat.le_refl _) _)).grown hg3 (by simp)
  have hb3 : Below w.heap.size w w3 := (hb2.alloc hb2.size _).grown hg3 (by simp; omega) (by simp)
  have s3 : w2.heap.size + 1 ≤ w3.heap.size := by have := hg3.size; simp at this; omega
  have H3 := Lib.hid (hown3.alloc (.cells #[.int .i64 0, .int .i64 3] 3))
  clear hown3 hg3 hb2
  go_wp2_with (refine Kit.wpList_insert_own _ rfl (.tmp 1) _ _ _ rfl 3 32 keyedInt (by kernel_rfl) _ w.heap.size 3 _ rfl H3.out (by unfold maxLen; omega) (.int .i64 3) _ (.int .i64 3) rfl rfl (keyOf_int_mk Tryz.underlying3 (by decide)) _ [] rfl ?_)
  intro w4 hown4 hg4
  have k3 := (Kit.Cl.new w3 [0, 3] 3).grown hg4 (by simp; omega)
  have k2 := (k2.below ((Below.refl _ w3).alloc (Nat.le_refl _) _)).grown hg4 (by simp; omega)
  have k1 := (k1.below ((Below.refl _ w3).alloc (Nat.le_refl _) _)).grown hg4 (by simp; omega)
  have k0 := (k0.below ((Below.refl _ w3).alloc (Nat.le_refl _) _)).grown hg4 (by simp)
  have hb4 : Below w.heap.size w w4 := (hb3.alloc hb3.size _).grown hg4 (by simp; omega) (by simp)
  have H4 := Lib.hid hown4
  have HK := Lib.hid (And.intro k0 (And.intro k1 (And.intro k2 k3)))
  clear hown4 hg4 hb3 k0 k1 k2 k3
  go_wp2_with fail
  go_ret
  obtain ⟨k0, k1, k2, k3⟩ := HK.out
  exact ⟨_, _, _, _, _, rfl, Nat.le_refl _, by simp, by omega, by omega, by omega, H4.out, k0, k1, k2, k3, hb4⟩
end Go.Proofs.YtlcdhlfkffkifaaGreatDoor

/-
  The walks through printable of udfstring, slices.ContainsFunc and IndexFunc.
-/
namespace Go.Proofs.YtlcdhlfkffkifaaGreatDoor
open Go.RowKit
set_option maxHeartbeats 1600000 in
/-- udfstring.printable$1. -/
theorem prt_any (b : UInt8) (w : World) : Calls Tryz.prog 101 #[.int .u8 (b.toNat : Int)] w fun e w' => e = .returned (.bool (!Cs.prt b)) ∧ w = w' := by
  have hcs : (32 ≤ b.toNat ∧ b.toNat ≤ 126) ∨ b.toNat < 32 ∨ (126 < b.toNat ∧ 32 ≤ b.toNat) := by omega
  rcases hcs with ⟨h1, h2⟩ | h1 | ⟨h1, h2⟩
  · have hp : Cs.prt b = true := (Cs.prt_iff b).2 ⟨h1, h2⟩
    rw [hp]
    have k1 : ¬ (b.toNat : Int) < 32 := by omega
    have k2 : ¬ (126 : Int) < (b.toNat : Int) := by omega
    go_enter Tryz.func101, Tryz.ntmps101
    go_wp2
    go_ret
    first | exact ⟨rfl, rfl⟩ | (refine ⟨congrArg (fun b => Ending.returned (.bool b)) ?_, rfl⟩; simp <;> omega)
  all_goals
    have hp : Cs.prt b = false := by
      rw [Bool.eq_false_iff]; intro h; have := (Cs.prt_iff b).1 h; omega
    rw [hp]
    go_enter Tryz.func101, Tryz.ntmps101
    go_wp2
    go_ret
    first | exact ⟨rfl, rfl⟩ | (refine ⟨congrArg (fun b => Ending.returned (.bool b)) ?_, rfl⟩; simp <;> omega)

set_option maxHeartbeats 1600000 in
set_option maxRecDepth 100000 in
/-- slices.IndexFunc, asked for what is not printable. -/
theorem indexFunc_any (l : List UInt8) (g c : Nat) (w : World) (_hl : l.length ≤ c) (hl9 : l.length ≤ 9223372036854775807) (hlw : g < w.heap.size) (hcell : ∀ j, j < l.length → w.cell? ⟨g, j, none⟩ = some (.int .u8 ((l.getD j 0).toNat : Nat))) :
    Calls Tryz.prog 120 #[.slice (some ⟨g, 0, none⟩) l.length c, .func (.func 101) #[] #[]] w fun e w' => ∃ r : Int, e = .returned (.int .i64 r) ∧ -1 ≤ r ∧ (0 ≤ r ↔ l.all Cs.prt = false) ∧ Below w.heap.size w w' := by
  have HC := Lib.hid hcell
  clear hcell
  go_enter Tryz.func120, Tryz.ntmps120
  go_wp2_with fail
  go_loopw [8] (fun iv wr => ∃ j : Nat, j ≤ l.length ∧ iv = .int .i64 j ∧ Hid ((l.take j).all Cs.prt = true) ∧ Below w.heap.size w wr) (fun iv _ => l.length - (intOf iv).toNat)
  case atStart => exact ⟨0, by omega, rfl, Lib.hid rfl, Below.refl _ _⟩
  case round =>
    obtain ⟨j, hj, rfl, HA, hbw⟩ := hrel
    by_cases hlt : j < l.length
    · have hcj : wr.cell? ⟨g, j, none⟩ = some (.int .u8 ((l.getD j 0).toNat : Nat)) := by
        rw [hbw.cell (p := ⟨g, j, none⟩) hlw]
        exact HC.out j hlt
      have CP := Lib.hid (fun W => prt_any (l.getD j 0) W)
      by_cases hp : Cs.prt (l.getD j 0) = true
      · have HN := Lib.hid (all_snocP hlt HA.out hp)
        rw [hp] at CP
        generalize l.getD j 0 = x at *
        clear hp
        go_wp2_with fail
        with_reducible refine (CP.out _).mono ?_
        rintro e w2 ⟨rfl, rfl⟩
        go_wp2_with fail
        go_roundw
        case rel => exact ⟨j + 1, by omega, by go_num, HN, hbw⟩
        case measure => simp [intOf]; omega
      · have hp' : Cs.prt (l.getD j 0) = false := by simpa using hp
        have HN := Lib.hid (all_failP hlt hp')
        rw [hp'] at CP
        generalize l.getD j 0 = x at *
        clear hp hp'
        go_wp2_with fail
        with_reducible refine (CP.out _).mono ?_
        rintro e w2 ⟨rfl, rfl⟩
        go_wp2_with fail
        go_ret
        exact ⟨_, rfl, by omega, ⟨fun _ => HN.out, fun _ => by omega⟩, hbw⟩
    · obtain rfl : j = l.length := by omega
      have ha := HA.out
      rw [List.take_length] at ha
      have HH := Lib.hid ha
      clear ha
      go_wp2_with fail
      go_ret
      exact ⟨_, rfl, by decide, ⟨fun h => absurd h (by decide), fun h => by rw [HH.out] at h; cases h⟩, hbw⟩

set_option maxHeartbeats 1600000 in
set_option maxRecDepth 100000 in
/-- slices.ContainsFunc, asked for what is not printable. -/
theorem containsFunc_any (l : List UInt8) (g c : Nat) (w : World) (hl : l.length ≤ c) (hl9 : l.length ≤ 9223372036854775807) (hlw : g < w.heap.size) (hcell : ∀ j, j < l.length → w.cell? ⟨g, j, none⟩ = some (.int .u8 ((l.getD j 0).toNat : Nat))) :
    Calls Tryz.prog 100 #[.slice (some ⟨g, 0, none⟩) l.length c, .func (.func 101) #[] #[]] w fun e w' => e = .returned (.bool (!l.all Cs.prt)) ∧ Below w.heap.size w w' := by
  have CI := Lib.hid (indexFunc_any l g c w hl hl9 hlw hcell)
  clear hcell
  cases hp : l.all Cs.prt with
  | true =>
    rw [hp] at CI
    go_enter Tryz.func100, Tryz.ntmps100
    go_wp2_with fail
    with_reducible refine CI.out.mono ?_
    rintro e w2 ⟨r, rfl, hr, hi, hb2⟩
    have hr0 : r < 0 := by
      rcases Int.lt_or_le r 0 with h | h
      · exact h
      · have := hi.1 h; cases this
    clear hi
    go_wp2_with fail
    go_ret
    first | exact ⟨rfl, hb2⟩ | (refine ⟨congrArg (fun b => Ending.returned (.bool b)) ?_, hb2⟩; simp <;> omega)
  | false =>
    rw [hp] at CI
    go_enter Tryz.func100, Tryz.ntmps100
    go_wp2_with fail
    with_reducible refine CI.out.mono ?_
    rintro e w2 ⟨r, rfl, hr, hi, hb2⟩
    have hr0 : 0 ≤ r := hi.2 (by first | rfl | trivial)
    clear hi
    go_wp2_with fail
    go_ret
    first | exact ⟨rfl, hb2⟩ | (refine ⟨congrArg (fun b => Ending.returned (.bool b)) ?_, hb2⟩; simp <;> omega)

set_option maxHeartbeats 1600000 in
set_option maxRecDepth 100000 in
/-- udfstring.printable. -/
theorem printable_any (s : ByteArray) (w : World) (hs : s.size ≤ 9223372036854775807) :
    Calls Tryz.prog 77 #[.string s] w fun e w' => e = .returned (.bool (Cs.idR s.data.toList)) ∧ Below w.heap.size w w' := by
  have hdl := Kit.len_size s
  by_cases h1 : 1 ≤ s.size
  case neg =>
    have HR := Lib.hid (show Cs.idR s.data.toList = false by unfold Cs.idR; rw [hdl, decide_eq_false h1]; rfl)
    have h1' : ¬ (1 : Int) ≤ (s.size : Int) := by omega
    clear hdl h1
    go_enter Tryz.func77, Tryz.ntmps77
    go_wp2_with fail
    go_ret
    rw [HR.out]
    first | exact ⟨rfl, Below.refl _ _⟩ | (refine ⟨congrArg (fun b => Ending.returned (.bool b)) ?_, Below.refl _ _⟩; simp <;> omega)
  case pos =>
  have h1' : (1 : Int) ≤ (s.size : Int) := by omega
  by_cases h2 : s.size ≤ 23
  case neg =>
    have HR := Lib.hid (show Cs.idR s.data.toList = false by unfold Cs.idR; rw [hdl, decide_eq_false h2]; simp)
    have h2' : ¬ (s.size : Int) ≤ 23 := by omega
    clear hdl h1 h2
    go_enter Tryz.func77, Tryz.ntmps77
    go_wp2_with fail
    go_ret
    rw [HR.out]
    first | exact ⟨rfl, Below.refl _ _⟩ | (refine ⟨congrArg (fun b => Ending.returned (.bool b)) ?_, Below.refl _ _⟩; simp <;> omega)
  case pos =>
  have h2' : (s.size : Int) ≤ 23 := by omega
  have HR := Lib.hid (show Cs.idR s.data.toList = s.data.toList.all Cs.prt by unfold Cs.idR; rw [hdl, decide_eq_true h1, decide_eq_true h2]; rfl)
  obtain ⟨cap, W1, hcv, hbW, hsW, hcap, hcells⟩ := Kit.str_bytes w s
  have hcm : cap ≤ 9223372036854775807 ∨ True := .inr trivial
  clear hcm
  have CF := Lib.hid (containsFunc_any s.data.toList w.heap.size cap W1 (by omega) (by omega) (by omega) (fun j hj => hcells j (by omega)))
  rw [hdl] at CF
  generalize s.data.toList.all Cs.prt = b at *
  clear hcells hdl h1 h2
  go_enter Tryz.func77, Tryz.ntmps77
  go_wp2_with fail
  with_reducible refine CF.out.mono ?_
  rintro e w2 ⟨rfl, hb2⟩
  go_wp2_with fail
  go_ret
  rw [HR.out]
  have hb3 := hbW.trans (hb2.mono (by omega))
  cases b <;> exact ⟨rfl, hb3⟩
end Go.Proofs.YtlcdhlfkffkifaaGreatDoor

/-
  The walks through Repeat and Entity of the program.
-/
namespace Go.Proofs.YtlcdhlfkffkifaaGreatDoor
open Go.RowKit
theorem repeatL_zero (n : Nat) : Lib.repeatL [0] n = List.replicate n 0 := by
  induction n with
  | zero => rfl
  | succ n ih => rw [Lib.repeatL, ih, List.replicate_succ]; rfl

/-- strings.Repeat of a zero byte. -/
theorem zeros_any (z : Int) (h0 : 0 ≤ z) (h1 : z ≤ 65536) (w : World) : Calls Tryz.prog 53 #[.string ⟨#[0]⟩, .int .i64 z] w fun e w' => e = .returned (.string ⟨(List.replicate z.toNat 0).toArray⟩) ∧ Below w.heap.size w w' := by
  obtain ⟨n, rfl⟩ := Int.eq_ofNat_of_zero_le h0
  have := Tryz.strings_Repeat ⟨#[0]⟩ n w (by omega) (by simp [ByteArray.size]; omega)
  rw [show (⟨#[0]⟩ : ByteArray).data.toList = [0] from rfl, repeatL_zero] at this
  simpa using this

set_option maxHeartbeats 1600000 in
/-- udfstring.Entity$1. -/
theorem clo_any (z : Int) (h0 : 0 ≤ z) (h1 : z ≤ 65536) (w : World) : Calls Tryz.prog 78 #[.int .i64 z] w fun e w' => e = .returned (.string ⟨(List.replicate z.toNat 0).toArray⟩) ∧ Below w.heap.size w w' := by
  have CZ := Lib.hid (fun W => zeros_any z h0 h1 W)
  generalize List.replicate z.toNat (0 : UInt8) = r at *
  go_enter Tryz.func78, Tryz.ntmps78
  go_wp2_with fail
  with_reducible refine (CZ.out _).mono ?_
  rintro e w2 ⟨rfl, hb2⟩
  go_wp2_with fail
  go_ret
  exact ⟨rfl, hb2⟩

set_option maxHeartbeats 1600000 in
set_option maxRecDepth 100000 in
/-- udfstring.Entity. -/
theorem entity_any (i s : ByteArray) (w : World) (hi : i.size ≤ 9223372036854775807) (hs : s.size ≤ 9223372036854775807) :
    Calls Tryz.prog 51 #[.string i, .string s] w fun e w' => e = .returned (.tuple #[.string ⟨(Cs.entR i.data.toList s.data.toList).1.toArray⟩, .int .i64 (Cs.entR i.data.toList s.data.toList).2]) ∧ Below w.heap.size w w' := by
  have hdi := Kit.len_size i
  have hds := Kit.len_size s
  have cP := fun W => printable_any i W hi
  by_cases hid : Cs.idR i.data.toList = true
  case neg =>
    have HR := Lib.hid (show Cs.entR i.data.toList s.data.toList = ([], 1) from if_neg (fun h => hid h.1))
    have hid' : Cs.idR i.data.toList = false := by simpa using hid
    rw [hid'] at cP
    have CP := Lib.hid cP
    clear cP hid hid' hdi hds
    go_enter Tryz.func51, Tryz.ntmps51
    go_wp2_with fail
    with_reducible refine (CP.out _).mono ?_
    rintro e w2 ⟨rfl, hb2⟩
    go_wp2_with fail
    go_ret2
    rw [HR.out]
    exact ⟨rfl, hb2⟩
  case pos =>
  rw [hid] at cP
  have CP := Lib.hid cP
  by_cases h8 : s.size ≤ 8
  case neg =>
    have HR := Lib.hid (show Cs.entR i.data.toList s.data.toList = ([], 1) from if_neg (fun h => by rw [hds] at h; exact h8 h.2))
    have h8' : (8 : Int) < (s.size : Int) := by omega
    clear cP hid hdi hds h8
    go_enter Tryz.func51, Tryz.ntmps51
    go_wp2_with fail
    with_reducible refine (CP.out _).mono ?_
    rintro e w2 ⟨rfl, hb2⟩
    go_wp2_with fail
    go_ret2
    rw [HR.out]
    exact ⟨rfl, hb2⟩
  case pos =>
  obtain ⟨hl1, hl2⟩ := Cs.idR_len hid
  rw [hdi] at hl1 hl2
  have hR := (show Cs.entR i.data.toList s.data.toList = (0 :: i.data.toList ++ List.replicate (23 - i.size) 0 ++ s.data.toList ++ List.replicate (8 - s.size) 0, 0) by
    unfold Cs.entR
    rw [if_pos ⟨hid, by rw [hds]; exact h8⟩, hdi, hds])
  have hz1 : (List.replicate (23 - i.size) (0 : UInt8)).length ≤ 23 := by simp
  have hz2 : (List.replicate (8 - s.size) (0 : UInt8)).length ≤ 8 := by simp
  have cZ1 := fun W => clo_any (23 - (i.size : Int)) (by omega) (by omega) W
  have cZ2 := fun W => clo_any (8 - (s.size : Int)) (by omega) (by omega) W
  rw [show (23 - (i.size : Int)).toNat = 23 - i.size by omega] at cZ1
  rw [show (8 - (s.size : Int)).toNat = 8 - s.size by omega] at cZ2
  generalize List.replicate (23 - i.size) (0 : UInt8) = r1 at *
  generalize List.replicate (8 - s.size) (0 : UInt8) = r2 at *
  have HR := Lib.hid hR
  clear hR
  have CZ1 := Lib.hid cZ1; have CZ2 := Lib.hid cZ2
  clear cZ1 cZ2
  have h8' : ¬ (8 : Int) < (s.size : Int) := by omega
  clear cP hid hdi hds
  go_enter Tryz.func51, Tryz.ntmps51
  go_wp2_with fail
  with_reducible refine (CP.out _).mono ?_
  rintro e w2 ⟨rfl, hb2⟩
  go_wp2_with fail
  with_reducible refine (CZ1.out _).mono ?_
  rintro e w3 ⟨rfl, hb3⟩
  have hc3 := hb2.trans (hb3.mono hb2.size)
  go_wp2_with fail
  with_reducible refine (CZ2.out _).mono ?_
  rintro e w4 ⟨rfl, hb4⟩
  have hc4 := hc3.trans (hb4.mono hc3.size)
  go_wp2_with fail
  go_ret2
  rw [HR.out]
  refine ⟨?_, hc4⟩
  with_reducible refine congrArg Ending.returned ?_
  simp
  apply ByteArray.ext
  simp [ByteArray.data_append]
end Go.Proofs.YtlcdhlfkffkifaaGreatDoor

/-
  The walk through udfstring.ParseEntity.
-/
namespace Go.Proofs.YtlcdhlfkffkifaaGreatDoor
open Go.RowKit

set_option maxHeartbeats 3200000 in
set_option maxRecDepth 100000 in
/-- udfstring.ParseEntity. -/
theorem pent_any (f : ByteArray) (w : World) (m : Int) (hM : w.cell? ⟨0, 0, none⟩ = some (.int .i64 m)) (_hs : f.size ≤ 9223372036854775807) :
    Calls Tryz.prog 61 #[.string f] w fun e w' => e = .returned (.tuple #[.string ⟨(Cs.pentR f.data.toList).1.1.toArray⟩, .string ⟨(Cs.pentR f.data.toList).1.2.toArray⟩, .int .i64 (Cs.pentR f.data.toList).2]) ∧ Below w.heap.size w w' := by
  have hdl := Kit.len_size f
  by_cases h32 : f.size = 32
  case neg =>
    have HR := Lib.hid (show Cs.pentR f.data.toList = (([], []), 1) from if_pos (by rw [hdl]; exact h32))
    have h32' : ((f.size : Int) != 32) = true := by rw [bne_iff_ne]; omega
    clear hdl h32
    go_enter Tryz.func61, Tryz.ntmps61
    go_wp2_with fail
    go_returns
    rw [HR.out]
    exact ⟨rfl, Below.refl _ _⟩
  case pos =>
  have h32l : f.data.toList.length = 32 := by omega
  have hR : Cs.pentR f.data.toList = if Cs.entOk f.data.toList = true then ((Cs.entS f.data.toList, f.data.toList.drop 24), 0) else (([], []), 10) := if_neg (by omega)
  have hsl := Cs.entS_len h32l
  have e1 : (f.extract 1 24).data.toList = Cs.entL f.data.toList := by rw [Lib.extract_data]; rfl
  have cC := fun W hm => Tryz.strings_Cut (f.extract 1 24) ⟨#[0]⟩ m W (by simp <;> omega) hm
  have ecut : (Lib.cut (f.extract 1 24).data.toList (⟨#[0]⟩ : ByteArray).data.toList).1 = Cs.entS f.data.toList := by rw [e1]; exact Cs.cut_while _
  simp only [ecut] at cC
  generalize (Lib.cut (f.extract 1 24).data.toList (⟨#[0]⟩ : ByteArray).data.toList).2.1 = q1 at cC
  generalize (Lib.cut (f.extract 1 24).data.toList (⟨#[0]⟩ : ByteArray).data.toList).2.2 = q2 at cC
  have hx : (f.extract (1 + (Cs.entS f.data.toList).length) 24).data.toList = (Cs.entL f.data.toList).drop (Cs.entS f.data.toList).length := by
    rw [Lib.extract_data]
    unfold Cs.entL
    rw [List.drop_take, List.drop_drop]
    congr 1
    omega
  have cT := fun W => Tryz.strings_Trim_one (f.extract (1 + (Cs.entS f.data.toList).length) 24) 0 (by decide) W (by simp <;> omega)
  rw [hx] at cT
  have hall := Cs.trimB_nil ((Cs.entL f.data.toList).drop (Cs.entS f.data.toList).length) 0
  have hok : Cs.entOk f.data.toList = (Cs.idR (Cs.entS f.data.toList) && ((Cs.entL f.data.toList).drop (Cs.entS f.data.toList).length).all fun b => b == 0) := rfl
  have cP := fun W => printable_any ⟨(Cs.entS f.data.toList).toArray⟩ W (by rw [lb_size]; omega)
  have hd24 : (f.extract 24 f.size).data.toList = f.data.toList.drop 24 := Lib.extract_to_end f 24
  have h32' : ((f.size : Int) != 32) = false := by rw [bne_eq_false_iff_eq]; omega
  have hz : (32 : Int) ≤ (f.size : Int) := by omega
  have H24 := Lib.hid (show f.extract 24 f.size = ⟨(f.data.toList.drop 24).toArray⟩ by rw [← hd24])
  generalize f.data.toList.drop 24 = d24 at *
  generalize ((Cs.entL f.data.toList).drop (Cs.entS f.data.toList).length).all (fun b => b == 0) = al at *
  generalize Lib.trimB ((Cs.entL f.data.toList).drop (Cs.entS f.data.toList).length) 0 = tb at *
  generalize Cs.entS f.data.toList = sl at *
  generalize Cs.idR sl = ir at *
  have hM2 : 0 < w.heap.size := World.block_lt_of_cell? _ _ hM
  have CC := Lib.hid (cC w hM); have CT := Lib.hid cT
  have hn1 : (1 + (sl.length : Int)).toNat = 1 + sl.length := by omega
  have hn2 : (1 + (sl.length : Int)) ≤ 24 := by omega
  clear cC cT e1 ecut hx hdl hd24 h32l hM
  cases ir with
  | false =>
    rw [hok] at hR
    have HR := Lib.hid (hR.trans (if_neg (by simp)))
    have CP := Lib.hid cP
    clear hR hok cP hall
    go_enter Tryz.func61, Tryz.ntmps61
    go_wp2_with fail
    with_reducible refine CC.out.mono ?_
    rintro e w2 ⟨rfl, n2, rfl⟩
    have hb2 := Kit.below_drewN (B := w.heap.size) (w := w) n2
    generalize w.drewN n2 = w2 at hb2 ⊢
    go_wp2_with fail
    with_reducible refine (CP.out _).mono ?_
    rintro e w3 ⟨rfl, hb3⟩
    have hc3 := hb2.trans (hb3.mono hb2.size)
    go_wp2_with fail
    go_returns
    rw [HR.out]
    exact ⟨rfl, hc3⟩
  | true =>
    have CP := Lib.hid cP
    clear cP
    by_cases hal : al = true
    · subst hal
      rw [hok] at hR
      have HR := Lib.hid (hR.trans (if_pos rfl))
      have htb : tb = [] := hall.2 rfl
      subst htb
      clear hR hok hall
      go_enter Tryz.func61, Tryz.ntmps61
      go_wp2_with fail
      with_reducible refine CC.out.mono ?_
      rintro e w2 ⟨rfl, n2, rfl⟩
      have hb2 := Kit.below_drewN (B := w.heap.size) (w := w) n2
      generalize w.drewN n2 = w2 at hb2 ⊢
      go_wp2_with fail
      with_reducible refine (CP.out _).mono ?_
      rintro e w3 ⟨rfl, hb3⟩
      have hc3 := hb2.trans (hb3.mono hb2.size)
      go_wp2_with fail
      with_reducible refine (CT.out _).mono ?_
      rintro e w4 ⟨rfl, hw4⟩
      have hc4 : Below w.heap.size w w4 := by
        rcases hw4 with rfl | rfl
        · exact hc3
        · exact hc3.drew
      clear hw4
      go_wp2_with fail
      go_quiet (fail)
      have hc5 := Kit.Below.drewN hc4 nq
      generalize w4.drewN nq = wq at hc5 ⊢
      go_wp2_with fail
      go_returns
      rw [HR.out]
      refine ⟨?_, hc5⟩
      simp
      rw [← h32]
      exact H24.out
    · have hal' : al = false := by simpa using hal
      subst hal'
      rw [hok] at hR
      have HR := Lib.hid (hR.trans (if_neg (by simp)))
      have htb : tb ≠ [] := fun h => by have := hall.1 h; cases this
      clear hR hok hall hal
      go_enter Tryz.func61, Tryz.ntmps61
      go_wp2_with fail
      with_reducible refine CC.out.mono ?_
      rintro e w2 ⟨rfl, n2, rfl⟩
      have hb2 := Kit.below_drewN (B := w.heap.size) (w := w) n2
      generalize w.drewN n2 = w2 at hb2 ⊢
      go_wp2_with fail
      with_reducible refine (CP.out _).mono ?_
      rintro e w3 ⟨rfl, hb3⟩
      have hc3 := hb2.trans (hb3.mono hb2.size)
      go_wp2_with fail
      with_reducible refine (CT.out _).mono ?_
      rintro e w4 ⟨rfl, hw4⟩
      have hc4 : Below w.heap.size w w4 := by
        rcases hw4 with rfl | rfl
        · exact hc3
        · exact hc3.drew
      clear hw4
      cases tb with
      | nil => exact absurd rfl htb
      | cons tb0 tb1 =>
      go_wp2_with fail
      go_returns
      rw [HR.out]
      exact ⟨rfl, hc4⟩
end Go.Proofs.YtlcdhlfkffkifaaGreatDoor

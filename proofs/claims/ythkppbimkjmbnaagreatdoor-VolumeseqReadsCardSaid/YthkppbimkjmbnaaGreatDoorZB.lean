/-
  The walks through Little, ReadLittle and the functions around them.
-/
import Derived.Test.YthkppbimkjmbnaaGreatDoorZy
import Derived.Test.YthkppbimkjmbnaaGreatDoorZA
import Derived.Laws.AppendOwnNone
namespace Go.Proofs.YthkppbimkjmbnaaGreatDoor
open Go.RowKit
namespace Pm
/-- Little. -/
def leR (n : Int) (k : Nat) : List UInt8 := if fitsB n k = true then le k n.toNat else []
/-- ReadLittle. -/
def readR (s : List UInt8) (a : Int) (k : Nat) : Int × Int :=
  if a < 0 ∨ (s.length : Int) - k < a then (0, 2) else if 9223372036854775807 < at_ s a.toNat k then (0, 7) else ((at_ s a.toNat k : Nat), 0)
theorem at_succ (s : List UInt8) (a j : Nat) (h : a + j < s.length) : at_ s a (j + 1) = at_ s a j + 256 ^ j * Cs.byt s (a + j) := by
  unfold at_
  have hd : j < (s.drop a).length := by rw [List.length_drop]; omega
  rw [List.take_succ_eq_append_getElem hd, num_append, List.length_take, Nat.min_eq_left (by omega)]
  congr 2
  unfold Cs.byt
  simp only [num, List.getElem_drop, List.getD, List.getElem?_eq_getElem h, Option.getD_some]
  omega
theorem pow8 (j : Nat) : (2 : Nat) ^ (8 * j) = 256 ^ j := by rw [Nat.pow_mul]
theorem or_byte (N b j : Nat) (hj : j < 8) (hN : N < 256 ^ j) (hb : b < 256) : bits BinOp.or IntKind.u64 (N : Int) (IntKind.u64.wrap (IntKind.u64.wrap (b : Int) * 2 ^ (8 * j))) = ((N + 256 ^ j * b : Nat) : Int) := by
  rw [wraps_u64 (b : Int) (by omega) (by omega)]
  have hp : ((2 : Int) ^ (8 * j)) = ((256 ^ j : Nat) : Int) := by rw [← pow8, Int.natCast_pow]; rfl
  have hpj : 256 ^ j ≤ 256 ^ 7 := Nat.pow_le_pow_right (by decide) (by omega)
  have hbp : b * 256 ^ j ≤ 255 * 256 ^ 7 := Nat.mul_le_mul (by omega) hpj
  have hx : ((b : Int) * 2 ^ (8 * j)) = ((b * 256 ^ j : Nat) : Int) := by rw [hp, Int.natCast_mul]
  have hlt : b * 256 ^ j < 2 ^ 64 := Nat.lt_of_le_of_lt hbp (by decide)
  rw [hx, wraps_u64 _ (by omega) (by exact_mod_cast hlt)]
  have hN' : N < 2 ^ 64 := Nat.lt_of_lt_of_le hN (Nat.le_trans hpj (by decide))
  rw [bits_join_low .u64 64 (by decide) wraps_u64 (8 * j) (N : Int) ((b * 256 ^ j : Nat) : Int) (by omega) (by rw [hp]; exact_mod_cast hN) (by exact_mod_cast hN') (by omega) (by
    rw [hp]; exact_mod_cast Nat.mul_mod_left b (256 ^ j)) (by exact_mod_cast hlt)]
  rw [Nat.mul_comm b, ← Int.natCast_add]
end Pm

set_option maxHeartbeats 1600000 in
set_option maxRecDepth 100000 in
/-- endian.Little. -/
theorem little_any (n : Int) (k : Nat) (hk : Pm.Sz k) (w : World) : Calls Tryz.prog 129 #[.int .i64 n, .int .i64 (k : Int)] w fun e w' => e = .returned (.tuple #[.string ⟨(Pm.leR n k).toArray⟩, .int .i64 (if Pm.fitsB n k = true then 0 else 2)]) ∧ Below w.heap.size w w' := by
  have CF := Lib.hid (fun W => check_any n k hk W)
  cases hb : Pm.fitsB n k with
  | false =>
    have HR := Lib.hid (show Pm.leR n k = [] by unfold Pm.leR; rw [hb]; rfl)
    rw [hb] at CF
    clear hb
    go_enter Tryz.func129, Tryz.ntmps129
    go_wp2_with fail
    with_reducible refine (CF.out _).mono ?_
    rintro e w2 ⟨rfl, rfl⟩
    go_wp2_with fail
    go_ret2
    rw [HR.out]
    exact ⟨rfl, Below.refl _ _⟩
  | true =>
    have HR := Lib.hid (show Pm.leR n k = Pm.le k n.toNat by unfold Pm.leR; rw [hb]; rfl)
    have h0 : 0 ≤ n := by unfold Pm.fitsB at hb; simp at hb; exact hb.1
    rw [hb] at CF
    clear hb
    obtain ⟨n, rfl⟩ := Int.eq_ofNat_of_zero_le h0
    rw [Int.toNat_natCast] at HR
    have CW := Lib.hid (fun W => write_any n k hk.le.2 W)
    generalize Pm.le k n = r at *
    clear h0 hk
    go_enter Tryz.func129, Tryz.ntmps129
    go_wp2_with fail
    with_reducible refine (CF.out _).mono ?_
    rintro e w2 ⟨rfl, rfl⟩
    go_wp2_with fail
    with_reducible refine (up_any _ _).mono ?_
    rintro e w2 ⟨rfl, rfl⟩
    go_wp2_with fail
    with_reducible refine (CW.out _).mono ?_
    rintro e w2 ⟨rfl, hb2⟩
    go_wp2_with fail
    go_ret2
    rw [HR.out]
    exact ⟨rfl, hb2⟩

set_option maxHeartbeats 1600000 in
set_option maxRecDepth 100000 in
/-- endian.inside. -/
theorem inside_any (s : ByteArray) (a : Int) (k : Nat) (hk : Pm.Sz k) (hs : s.size ≤ 9223372036854775807) (w : World) : Calls Tryz.prog 229 #[.string s, .int .i64 a, .int .i64 (k : Int)] w fun e w' => e = .returned (.bool (decide (0 ≤ a) && decide (a ≤ (s.size : Int) - k))) ∧ w = w' := by
  obtain ⟨h1, h8⟩ := hk.le
  by_cases h0 : 0 ≤ a
  · go_enter Tryz.func229, Tryz.ntmps229
    go_wp2
    go_ret
    refine ⟨congrArg (fun b => Ending.returned (.bool b)) ?_, rfl⟩
    simp [h0]
  · have h0' : decide (0 ≤ a) = false := by simpa using h0
    rw [h0']
    go_enter Tryz.func229, Tryz.ntmps229
    go_wp2
    go_ret
    exact ⟨rfl, rfl⟩

set_option maxHeartbeats 3200000 in
set_option maxRecDepth 100000 in
/-- endian.read of a little-endian number. -/
theorem read_any (s : ByteArray) (a : Int) (k : Nat) (hk : Pm.Sz k) (hs : s.size ≤ 9223372036854775807) (w : World) : Calls Tryz.prog 172 #[.string s, .int .i64 a, .int .i64 (k : Int), .func (.func 230) #[] #[]] w fun e w' => e = .returned (.tuple #[.int .i64 (Pm.readR s.data.toList a k).1, .int .i64 (Pm.readR s.data.toList a k).2]) ∧ w = w' := by
  obtain ⟨h1, h8⟩ := hk.le
  have CI := Lib.hid (fun W => inside_any s a k hk hs W)
  have hdl := Kit.len_size s
  by_cases hin : 0 ≤ a ∧ a ≤ (s.size : Int) - k
  case neg =>
    have HR := Lib.hid (show Pm.readR s.data.toList a k = (0, 2) from if_pos (by omega))
    rw [show (decide (0 ≤ a) && decide (a ≤ (s.size : Int) - k)) = false by rw [Bool.and_eq_false_iff]; simp; omega] at CI
    clear hin hdl
    go_enter Tryz.func172, Tryz.ntmps172
    go_wp2_with fail
    with_reducible refine (CI.out _).mono ?_
    rintro e w2 ⟨rfl, rfl⟩
    go_wp2_with fail
    go_ret2
    rw [HR.out]
    exact ⟨rfl, rfl⟩
  case pos =>
  obtain ⟨ha0, ha1⟩ := hin
  rw [show (decide (0 ≤ a) && decide (a ≤ (s.size : Int) - k)) = true by rw [Bool.and_eq_true]; simp; omega] at CI
  obtain ⟨a, rfl⟩ := Int.eq_ofNat_of_zero_le ha0
  have hR : Pm.readR s.data.toList (a : Int) k = if 9223372036854775807 < Pm.at_ s.data.toList a k then ((0, 7) : Int × Int) else (((Pm.at_ s.data.toList a k : Nat) : Int), 0) := by
    unfold Pm.readR
    rw [if_neg (by omega), Int.toNat_natCast]
  have HR := Lib.hid hR
  have hak : a + k ≤ s.size := by omega
  clear hR hdl ha0 ha1
  go_enter Tryz.func172, Tryz.ntmps172
  go_wp2_with fail
  with_reducible refine (CI.out _).mono ?_
  rintro e w2 ⟨rfl, rfl⟩
  go_wp2_with fail
  go_loop [10, 11, 26] (fun nv _ iv => ∃ j : Nat, j ≤ k ∧ iv = .int .i64 j ∧ nv = .int .u64 (Pm.at_ s.data.toList a j : Nat)) (fun _ _ iv => k - (intOf iv).toNat)
  case atStart => exact ⟨0, by omega, rfl, by simp [Pm.at_, Pm.num]⟩
  case round =>
    obtain ⟨j, hj, rfl, rfl⟩ := hrel
    by_cases hlt : j < k
    · have hb := Kit.byt_get s (a + j) (by omega)
      have hix : a + j < s.size := by omega
      go_wp2_with fail
      with_reducible refine (up1_any _ _).mono ?_
      rintro e w2 ⟨rfl, rfl⟩
      go_wp2_with fail
      have hsl : a + j < s.data.toList.length := by rw [Kit.len_size]; exact hix
      rw [Pm.or_byte _ _ j (by omega) (Pm.at_lt _ _ _) (Cs.byt_lt _ _), ← Pm.at_succ _ _ _ hsl]
      go_round
      case rel => exact ⟨j + 1, by omega, by go_num, rfl⟩
      case measure => simp [intOf]; omega
    · obtain rfl : j = k := by omega
      by_cases hbig : 9223372036854775807 < Pm.at_ s.data.toList a j
      · have HR' := Lib.hid (HR.out.trans (if_pos hbig))
        generalize Pm.at_ s.data.toList a j = x at *
        have hbig' : (9223372036854775807 : Int) < (x : Int) := by omega
        go_wp2_with fail
        go_ret2
        rw [HR'.out]
        exact ⟨rfl, rfl⟩
      · have HR' := Lib.hid (HR.out.trans (if_neg hbig))
        generalize Pm.at_ s.data.toList a j = x at *
        have hbig' : (x : Int) ≤ 9223372036854775807 := by omega
        have hbig2 : ¬ (9223372036854775807 : Int) < (x : Int) := by omega
        go_wp2_with fail
        go_ret2
        rw [HR'.out]
        exact ⟨rfl, rfl⟩

set_option maxHeartbeats 1600000 in
set_option maxRecDepth 100000 in
/-- endian.ReadLittle. -/
theorem readLittle_any (s : ByteArray) (a : Int) (k : Nat) (hk : Pm.Sz k) (hs : s.size ≤ 9223372036854775807) (w : World) : Calls Tryz.prog 114 #[.string s, .int .i64 a, .int .i64 (k : Int)] w fun e w' => e = .returned (.tuple #[.int .i64 (Pm.readR s.data.toList a k).1, .int .i64 (Pm.readR s.data.toList a k).2]) ∧ w = w' := by
  have CR := Lib.hid (fun W => read_any s a k hk hs W)
  generalize (Pm.readR s.data.toList a k).1 = r1 at *
  generalize (Pm.readR s.data.toList a k).2 = r2 at *
  clear hk hs
  go_enter Tryz.func114, Tryz.ntmps114
  go_wp2_with fail
  with_reducible refine (up_any _ _).mono ?_
  rintro e w2 ⟨rfl, rfl⟩
  go_wp2_with fail
  with_reducible refine (CR.out _).mono ?_
  rintro e w2 ⟨rfl, rfl⟩
  go_wp2_with fail
  go_ret2
  exact ⟨rfl, rfl⟩
end Go.Proofs.YthkppbimkjmbnaaGreatDoor

/-
  The walk through allocation.little.
-/
namespace Go.Proofs.YthkppbimkjmbnaaGreatDoor
open Go.RowKit

set_option maxHeartbeats 1600000 in
set_option maxRecDepth 100000 in
/-- allocation.little. -/
theorem aLittle_any (n : Int) (k : Nat) (hk : Pm.Sz k) (w : World) : Calls Tryz.prog 193 #[.int .i64 n, .int .i64 (k : Int)] w fun e w' => e = .returned (.string ⟨(Pm.leR n k).toArray⟩) ∧ Below w.heap.size w w' := by
  have CL := Lib.hid (fun W => little_any n k hk W)
  generalize Pm.leR n k = r at *
  generalize (if Pm.fitsB n k = true then (0 : Int) else 2) = er at *
  go_enter Tryz.func193, Tryz.ntmps193
  go_wp2_with fail
  with_reducible refine (CL.out _).mono ?_
  rintro e w2 ⟨rfl, hb2⟩
  go_wp2_with fail
  go_ret
  exact ⟨rfl, hb2⟩
end Go.Proofs.YthkppbimkjmbnaaGreatDoor

/-
  More small lemmas over the model: rows of whatever element size, sources of an append.
-/
namespace Go.Proofs.YthkppbimkjmbnaaGreatDoor
open Go.RowKit
namespace Kit

/-- A row whose nil slice has no capacity. -/
def RowS (w : World) (v : Value) (xs : List Value) : Prop := Row w v xs ∧ ∀ n c, v = .slice none n c → c = 0
theorem RowS.below {w w' : World} {v : Value} {xs : List Value} (h : RowS w v xs) (hb : Below w.heap.size w w') : RowS w' v xs := ⟨h.1.below hb, h.2⟩
theorem RowS.of_own {w : World} {base e n : Nat} {v : Value} {xs : List Value} (h : w.ownsRow base e 1 v n xs) : RowS w v xs := by
  refine ⟨Row.of_own h, fun m c hv => ?_⟩
  rcases h.2 with ⟨rfl, _⟩ | ⟨g, cap, cur, rfl, _⟩
  · simp at hv; exact hv.2.symm
  · simp at hv
theorem RowS.nil (w : World) : RowS w (.slice none 0 0) [] := ⟨⟨none, 0, rfl, by simp, by unfold maxLen; omega, fun h => by simp at h⟩, fun n c h => by simp at h; exact h.2.symm⟩
/-- A row that has just been laid. -/
theorem RowS.new (w : World) (xs : List Value) (e : TypeId) (hl : xs.length ≤ maxLen) : RowS (w.alloc (.cells xs.toArray e)) (.slice (some ⟨w.heap.size, 0, none⟩) xs.length xs.length) xs := by
  refine ⟨⟨some ⟨w.heap.size, 0, none⟩, xs.length, rfl, Nat.le_refl _, hl, fun _ => ⟨w.heap.size, 0, rfl, by simp, fun j u hu => ?_⟩⟩, fun n c h => by simp at h⟩
  rw [World.cell?_alloc_at _ _ _ _ (by simp)]
  simpa using hu

theorem izs_append (l m : List Int) : izs (l ++ m) = izs l ++ izs m := by simp [izs]

/-- A slice value whose elements, of some cells each, read as lists of cells. -/
def RowN (w : World) (v : Value) (size n : Nat) (C : Nat → List Value) : Prop := ∃ A c, v = .slice A n c ∧ n ≤ c ∧ c ≤ maxLen ∧
  (0 < n → ∃ b o, A = some ⟨b, o, none⟩ ∧ b < w.heap.size ∧ ∀ j, j < n → ∀ k u, (C j)[k]? = some u → w.cell? ⟨b, o + j * size + k, none⟩ = some u)
theorem RowN.below {w w' : World} {v : Value} {size n : Nat} {C : Nat → List Value} (h : RowN w v size n C) (hb : Below w.heap.size w w') : RowN w' v size n C := by
  obtain ⟨A, c, rfl, h1, h2, h3⟩ := h
  refine ⟨A, c, rfl, h1, h2, fun h0 => ?_⟩
  obtain ⟨b, o, rfl, hl, hc⟩ := h3 h0
  exact ⟨b, o, rfl, Nat.lt_of_lt_of_le hl hb.size, fun j hj k u hu => (hb.cell (p := ⟨b, o + j * size + k, none⟩) hl).trans (hc j hj k u hu)⟩
end Kit
end Go.Proofs.YthkppbimkjmbnaaGreatDoor

/-
  Plain functions of the translation of addresses: extents, mappings, spans; and their plain laws.
-/
namespace Go.Proofs.YthkppbimkjmbnaaGreatDoor
namespace Pm

structure X where
  kind : Int
  length : Int
  block : Int
  part : Int

def formed1 (x : X) : Bool :=
  decide (0 ≤ x.kind) && decide (x.kind ≤ 3) && decide (1 ≤ x.length) && decide (x.length < 1073741824) &&
  decide (0 ≤ x.block) && decide (x.block < 4294967296) && decide (0 ≤ x.part) && decide (x.part ≤ 65535)
def formed (l : List X) : Bool := decide (l.length ≤ 64) && l.all formed1
theorem formed1_iff (x : X) : formed1 x = true ↔ 0 ≤ x.kind ∧ x.kind ≤ 3 ∧ 1 ≤ x.length ∧ x.length < 1073741824 ∧ 0 ≤ x.block ∧ x.block < 4294967296 ∧ 0 ≤ x.part ∧ x.part ≤ 65535 := by
  simp [formed1, and_assoc]
structure Mp where
  maps : List M
  start : Int
  count : Int
  vat : List Int
  spares : List (Int × Int)
  mdat : List X

def spare (l : List (Int × Int)) (b : Int) (d : Int) : Int := match l.find? (fun s => decide (s.1 = b - b % 8)) with | some s => s.2 + b % 8 | .none => d
/-- One block more behind spans. -/
def push (out : List (Int × Int)) (lba : Int) : List (Int × Int) :=
  match out.getLast? with
  | some s => if s.1 + s.2 = lba then out.dropLast ++ [(s.1, s.2 + 1)] else out ++ [(lba, 1)]
  | .none => [(lba, 1)]
end Pm
end Go.Proofs.YthkppbimkjmbnaaGreatDoor

/-
  Slices of extents: well-formed?
-/
namespace Go.Proofs.YthkppbimkjmbnaaGreatDoor
open Go.RowKit
namespace Pm
/-- An extent as a value; its cells. -/
def exV (x : X) : Value := .agg #[.int .i64 x.kind, .int .i64 x.length, .int .i64 x.block, .int .i64 x.part]
def exC (x : X) : List Value := [.int .i64 x.kind, .int .i64 x.length, .int .i64 x.block, .int .i64 x.part]
def x0 : X := ⟨0, 0, 0, 0⟩
structure ExtsAt (w : World) (v : Value) (l : List X) : Prop where
  row : Kit.RowN w v 4 l.length (fun j => exC (l.getD j x0))
theorem ExtsAt.below {w w' : World} {v : Value} {l : List X} (h : ExtsAt w v l) (hb : Below w.heap.size w w') : ExtsAt w' v l := ⟨h.row.below hb⟩
theorem four {w wr : World} {b o j : Nat} {x : X} (hbl : b < w.heap.size) (hbw : Below w.heap.size w wr) (h : ∀ k u, (exC x)[k]? = some u → w.cell? ⟨b, o + j * 4 + k, Option.none⟩ = some u) :
    wr.cell? ⟨b, o + j * 4, Option.none⟩ = some (.int .i64 x.kind) ∧ wr.cell? ⟨b, o + j * 4 + 1, Option.none⟩ = some (.int .i64 x.length) ∧
    wr.cell? ⟨b, o + j * 4 + 2, Option.none⟩ = some (.int .i64 x.block) ∧ wr.cell? ⟨b, o + j * 4 + 3, Option.none⟩ = some (.int .i64 x.part) := by
  have g : ∀ k u, (exC x)[k]? = some u → wr.cell? ⟨b, o + j * 4 + k, Option.none⟩ = some u := fun k u hu => (hbw.cell (p := ⟨b, o + j * 4 + k, Option.none⟩) hbl).trans (h k u hu)
  exact ⟨g 0 _ rfl, g 1 _ rfl, g 2 _ rfl, g 3 _ rfl⟩
end Pm

set_option maxHeartbeats 3200000 in
set_option maxRecDepth 100000 in
/-- allocation.formed$1. -/
theorem notFormed_any (x : Pm.X) (w : World) :
    Calls Tryz.prog 241 #[Pm.exV x] w fun e w' => e = .returned (.bool (!Pm.formed1 x)) ∧ Below w.heap.size w w' := by
  have hiff := Pm.formed1_iff x
  unfold Pm.exV
  obtain ⟨k, n, b, p⟩ := x
  simp only [] at *
  generalize Pm.formed1 ⟨k, n, b, p⟩ = V at *
  have hcs : (0 ≤ k ∧ k ≤ 3 ∧ 1 ≤ n ∧ n < 1073741824 ∧ 0 ≤ b ∧ b < 4294967296 ∧ 0 ≤ p ∧ p ≤ 65535) ∨ (k < 0) ∨ (0 ≤ k ∧ 3 < k) ∨ (0 ≤ k ∧ k ≤ 3 ∧ n < 1) ∨ (0 ≤ k ∧ k ≤ 3 ∧ 1 ≤ n ∧ 1073741824 ≤ n) ∨
      (0 ≤ k ∧ k ≤ 3 ∧ 1 ≤ n ∧ n < 1073741824 ∧ b < 0) ∨ (0 ≤ k ∧ k ≤ 3 ∧ 1 ≤ n ∧ n < 1073741824 ∧ 0 ≤ b ∧ 4294967296 ≤ b) ∨ (0 ≤ k ∧ k ≤ 3 ∧ 1 ≤ n ∧ n < 1073741824 ∧ 0 ≤ b ∧ b < 4294967296 ∧ p < 0) ∨
      (0 ≤ k ∧ k ≤ 3 ∧ 1 ≤ n ∧ n < 1073741824 ∧ 0 ≤ b ∧ b < 4294967296 ∧ 0 ≤ p ∧ 65535 < p) := by omega
  rcases hcs with h | h | h | h | h | h | h | h | h
  · have HV := Lib.hid (show V = true from hiff.2 h)
    clear hiff
    obtain ⟨h1, h2, h3, h4, h5, h6, h7, h8⟩ := h
    have d1 : decide (k < 0) = false := decide_eq_false (by omega)
    have d2 : decide (3 < k) = false := decide_eq_false (by omega)
    have d3 : decide (n < 1) = false := decide_eq_false (by omega)
    have d4 : decide (1073741824 ≤ n) = false := decide_eq_false (by omega)
    have d5 : decide (b < 0) = false := decide_eq_false (by omega)
    have d6 : decide (4294967296 ≤ b) = false := decide_eq_false (by omega)
    have d7 : decide (p < 0) = false := decide_eq_false (by omega)
    have d8 : decide (65535 < p) = false := decide_eq_false (by omega)
    clear h1 h2 h3 h4 h5 h6 h7 h8
    go_enter Tryz.func241, Tryz.ntmps241
    go_wp2_with fail
    go_ret
    rw [HV.out]
    exact ⟨rfl, (Below.refl _ _).alloc (Nat.le_refl _) _⟩
  all_goals
    have HV := Lib.hid (show V = false by
      rw [Bool.eq_false_iff]; intro hv; have := hiff.1 hv; omega)
    clear hiff
    try have d1 : decide (k < 0) = false := decide_eq_false (by omega)
    try have d1' : decide (k < 0) = true := decide_eq_true (by omega)
    try have d2 : decide (3 < k) = false := decide_eq_false (by omega)
    try have d2' : decide (3 < k) = true := decide_eq_true (by omega)
    try have d3 : decide (n < 1) = false := decide_eq_false (by omega)
    try have d3' : decide (n < 1) = true := decide_eq_true (by omega)
    try have d4 : decide (1073741824 ≤ n) = false := decide_eq_false (by omega)
    try have d4' : decide (1073741824 ≤ n) = true := decide_eq_true (by omega)
    try have d5 : decide (b < 0) = false := decide_eq_false (by omega)
    try have d5' : decide (b < 0) = true := decide_eq_true (by omega)
    try have d6 : decide (4294967296 ≤ b) = false := decide_eq_false (by omega)
    try have d6' : decide (4294967296 ≤ b) = true := decide_eq_true (by omega)
    try have d7 : decide (p < 0) = false := decide_eq_false (by omega)
    try have d7' : decide (p < 0) = true := decide_eq_true (by omega)
    try have d8 : decide (65535 < p) = true := decide_eq_true (by omega)
    clear h
    go_enter Tryz.func241, Tryz.ntmps241
    go_wp2_with fail
    go_ret
    rw [HV.out]
    exact ⟨rfl, (Below.refl _ _).alloc (Nat.le_refl _) _⟩
end Go.Proofs.YthkppbimkjmbnaaGreatDoor

/-
  Slices of extents: are all well-formed? The program's functions.
-/
namespace Go.Proofs.YthkppbimkjmbnaaGreatDoor
open Go.RowKit
theorem all_snocX {p : Pm.X → Bool} {l : List Pm.X} {i : Nat} (hi : i < l.length) (h : (l.take i).all p = true) (hp : p (l.getD i Pm.x0) = true) : (l.take (i + 1)).all p = true := by
  rw [List.take_succ_eq_append_getElem hi, List.all_append, h]
  simp [List.getD, hi] at hp
  simp [hp]
theorem all_failX {p : Pm.X → Bool} {l : List Pm.X} {i : Nat} (hi : i < l.length) (hp : p (l.getD i Pm.x0) = false) : l.all p = false := by
  rw [Bool.eq_false_iff]
  intro h
  have := List.all_eq_true.1 h (l.getD i Pm.x0) (by simp [List.getD, hi])
  rw [hp] at this
  cases this

set_option maxHeartbeats 1600000 in
set_option maxRecDepth 100000 in
/-- slices.IndexFunc over maps, asked for what is not valid. -/
theorem indexExts_any (v : Value) (l : List Pm.X) (w : World) (hm : Pm.ExtsAt w v l) :
    Calls Tryz.prog 273 #[v, .func (.func 241) #[] #[]] w fun e w' => ∃ r : Int, e = .returned (.int .i64 r) ∧ -1 ≤ r ∧ (0 ≤ r ↔ l.all Pm.formed1 = false) ∧ Below w.heap.size w w' := by
  have HM := Lib.hid hm
  obtain ⟨A, c, rfl, hlc, hcm, hcells⟩ := hm.row
  have HCE := Lib.hid hcells
  clear hcells hm
  unfold maxLen at hcm
  go_enter Tryz.func273, Tryz.ntmps273
  go_wp2_with fail
  go_loopw [5, 8] (fun _ iv wr => ∃ j : Nat, j ≤ l.length ∧ iv = .int .i64 j ∧ Hid ((l.take j).all Pm.formed1 = true) ∧ Below w.heap.size w wr) (fun _ iv _ => l.length - (intOf iv).toNat)
  case atStart => exact ⟨0, by omega, rfl, Lib.hid rfl, Below.refl _ _⟩
  case round =>
    obtain ⟨j, hj, rfl, HA, hbw⟩ := hrel
    by_cases hlt : j < l.length
    · obtain ⟨b, o, rfl, hbl, hc⟩ := HCE.out (by omega)
      obtain ⟨c0, c1, c2, c3⟩ := Pm.four hbl hbw (hc j hlt)
      have CP := Lib.hid (fun W => notFormed_any (l.getD j Pm.x0) W)
      have hall := all_snocX (p := Pm.formed1) hlt HA.out
      have hfail := all_failX (p := Pm.formed1) hlt
      clear hc
      generalize l.getD j Pm.x0 = x at *
      unfold Pm.exV at CP
      cases hp : Pm.formed1 x with
      | true =>
        have HN := Lib.hid (hall hp)
        rw [hp] at CP
        clear hp hall hfail
        obtain ⟨k, n, bb, pp⟩ := x
        simp only [] at *
        go_wp2_with fail
        with_reducible refine (CP.out _).mono ?_
        rintro e w2 ⟨rfl, hb2⟩
        go_wp2_with fail
        go_roundw
        case rel => exact ⟨j + 1, by omega, by go_num, HN, hbw.trans (hb2.mono hbw.size)⟩
        case measure => simp [intOf]; omega
      | false =>
        have HN := Lib.hid (hfail hp)
        rw [hp] at CP
        clear hp hall hfail
        obtain ⟨k, n, bb, pp⟩ := x
        simp only [] at *
        go_wp2_with fail
        with_reducible refine (CP.out _).mono ?_
        rintro e w2 ⟨rfl, hb2⟩
        go_wp2_with fail
        go_ret
        exact ⟨_, rfl, by omega, ⟨fun _ => HN.out, fun _ => by omega⟩, hbw.trans (hb2.mono hbw.size)⟩
    · obtain rfl : j = l.length := by omega
      have ha := HA.out
      rw [List.take_length] at ha
      have HH := Lib.hid ha
      clear ha
      go_wp2_with fail
      go_ret
      exact ⟨_, rfl, by decide, ⟨fun h => absurd h (by decide), fun h => by rw [HH.out] at h; cases h⟩, hbw⟩

set_option maxHeartbeats 1600000 in
set_option maxRecDepth 100000 in
/-- slices.ContainsFunc over maps, asked for what is not valid. -/
theorem containsExts_any (v : Value) (l : List Pm.X) (w : World) (hm : Pm.ExtsAt w v l) :
    Calls Tryz.prog 240 #[v, .func (.func 241) #[] #[]] w fun e w' => e = .returned (.bool (!l.all Pm.formed1)) ∧ Below w.heap.size w w' := by
  have CI := Lib.hid (indexExts_any v l w hm)
  obtain ⟨A, c, rfl, _, _, _⟩ := hm.row
  clear hm
  cases hp : l.all Pm.formed1 with
  | true =>
    rw [hp] at CI
    go_enter Tryz.func240, Tryz.ntmps240
    go_wp2_with fail
    with_reducible refine CI.out.mono ?_
    rintro e w2 ⟨r, rfl, hr, hi, hb2⟩
    have hr0 : r < 0 := by
      rcases Int.lt_or_le r 0 with h | h
      · exact h
      · have := hi.1 h; cases this
    clear hi
    go_wp2_with fail
    go_ret
    first | exact ⟨rfl, hb2⟩ | (refine ⟨congrArg (fun b => Ending.returned (.bool b)) ?_, hb2⟩; simp <;> omega)
  | false =>
    rw [hp] at CI
    go_enter Tryz.func240, Tryz.ntmps240
    go_wp2_with fail
    with_reducible refine CI.out.mono ?_
    rintro e w2 ⟨r, rfl, hr, hi, hb2⟩
    have hr0 : 0 ≤ r := hi.2 (by first | rfl | trivial)
    clear hi
    go_wp2_with fail
    go_ret
    first | exact ⟨rfl, hb2⟩ | (refine ⟨congrArg (fun b => Ending.returned (.bool b)) ?_, hb2⟩; simp <;> omega)

set_option maxHeartbeats 1600000 in
set_option maxRecDepth 100000 in
/-- allocation.formed. -/
theorem formed_any (v : Value) (l : List Pm.X) (w : World) (hm : Pm.ExtsAt w v l) :
    Calls Tryz.prog 190 #[v] w fun e w' => e = .returned (.bool (Pm.formed l)) ∧ Below w.heap.size w w' := by
  have CC := Lib.hid (fun W h => containsExts_any v l W h)
  have HM := Lib.hid hm
  obtain ⟨A, c, rfl, _, _, _⟩ := hm.row
  clear hm
  by_cases h4 : l.length ≤ 64
  · have HR := Lib.hid (show Pm.formed l = l.all Pm.formed1 by unfold Pm.formed; rw [decide_eq_true h4]; rfl)
    have d4 : decide ((l.length : Int) ≤ 64) = true := decide_eq_true (by omega)
    generalize l.all Pm.formed1 = q at *
    go_enter Tryz.func190, Tryz.ntmps190
    go_wp2_with fail
    with_reducible refine (CC.out _ HM.out).mono ?_
    rintro e w2 ⟨rfl, hb2⟩
    go_wp2_with fail
    go_ret
    rw [HR.out]
    cases q <;> exact ⟨rfl, hb2⟩
  · have HR := Lib.hid (show Pm.formed l = false by unfold Pm.formed; rw [decide_eq_false h4]; rfl)
    have d4 : decide ((l.length : Int) ≤ 64) = false := decide_eq_false (by omega)
    go_enter Tryz.func190, Tryz.ntmps190
    go_wp2_with fail
    go_ret
    rw [HR.out]
    exact ⟨rfl, Below.refl _ _⟩
end Go.Proofs.YthkppbimkjmbnaaGreatDoor

/-
  Regions that draw their order and hold calls that make memory: one walk of the text's order serves every order, the class of worlds being all that leave what lay below a block as it was.
-/
import Derived.Test.YthkppbimkjmbnaaGreatDoorZA
import Derived.BigQuiet
import Derived.Deep.QuietTactic
import Derived.Lib.IndexMore
import Derived.Lib.TrimByte
import Derived.Deep.OwnRows
import Derived.Deep.RegionWith
import Derived.Lib.EndianBits
import Derived.StillTailTactics
namespace Go.Proofs.YthkppbimkjmbnaaGreatDoor
open Go.RowKit

structure Later (B : Nat) (w : World) where
  to : World
  bel : Below B w to

instance later_ne {B : Nat} {w : World} : Nonempty (Later B w) := ⟨⟨w, Below.refl B w⟩⟩

theorem wp_region_later {P : Program} {id : Nat} {Q : Exit → Act → World → Prop} {a : Act} {w : World} {l : List Oper} (B : Nat) (hm : P.follows .mixedOrders = true) (hB : Region.lexB .any l.toArray = true)
    (h : wpQuiet P l.toArray (fun w' => ∃ x : Later B w, w' = x.to) (fun a' => ∀ w', (∃ x : Later B w, w' = x.to) → Q .normal a' w') l a) : (Code.region id l.toArray true).wp P Q a w :=
  wp_region_quiet (C := fun w' => ∃ x : Later B w, w' = x.to) hm hB ⟨⟨w.drewN 1, Kit.below_drewN 1⟩, rfl⟩ (by simpa using h)

/-- A callee's contract, met in a later world. -/
theorem Calls.later_of {P : Program} {f : FuncId} {args : Array Value} {B : Nat} {w : World} {x : Later B w} {v : Value} (hB : B ≤ w.heap.size)
    (h : Calls P f args x.to fun e w' => e = .returned v ∧ Below x.to.heap.size x.to w') : Calls P f args x.to fun e w'' => e = .returned v ∧ ∃ y : Later B w, w'' = y.to :=
  h.mono fun _ _ ⟨he, hb⟩ => ⟨he, ⟨_, x.bel.trans (hb.mono (Nat.le_trans hB x.bel.size))⟩, rfl⟩

/-- .. of a callee that leaves the world as it is. -/
theorem Calls.later_same {P : Program} {f : FuncId} {args : Array Value} {B : Nat} {w : World} {x : Later B w} {v : Value}
    (h : Calls P f args x.to fun e w' => e = .returned v ∧ x.to = w') : Calls P f args x.to fun e w'' => e = .returned v ∧ ∃ y : Later B w, w'' = y.to :=
  h.mono fun _ _ ⟨he, hb⟩ => ⟨he, x, hb.symm⟩
theorem later_cell {B : Nat} {w : World} (x : Later B w) {b o : Nat} {v : Value} (hb : b < B) (h : w.cell? ⟨b, o, none⟩ = some v) : x.to.cell? ⟨b, o, none⟩ = some v :=
  (x.bel.cell (p := ⟨b, o, none⟩) hb).trans h
end Go.Proofs.YthkppbimkjmbnaaGreatDoor

/-
  Plain laws on entity identifiers: no program in sight.
-/
namespace Go.Proofs.YthkppbimkjmbnaaGreatDoor
namespace Cs
/-- Printable ASCII. -/
def prt (b : UInt8) : Bool := decide (32 ≤ b.toNat) && decide (b.toNat ≤ 126)
theorem prt_iff (b : UInt8) : prt b = true ↔ 32 ≤ b.toNat ∧ b.toNat ≤ 126 := by simp [prt]
/-- What can be an identifier. -/
def idR (l : List UInt8) : Bool := decide (1 ≤ l.length) && (decide (l.length ≤ 23) && l.all prt)
/-- All bytes printable. -/
def allP (l : List UInt8) : Bool := l.all prt
/-- What Entity returns. -/
def entR (i s : List UInt8) : List UInt8 × Int :=
  if idR i = true ∧ s.length ≤ 8 then (0 :: i ++ List.replicate (23 - i.length) 0 ++ s ++ List.replicate (8 - s.length) 0, 0) else ([], 1)
theorem idR_len {l : List UInt8} (h : idR l = true) : 1 ≤ l.length ∧ l.length ≤ 23 := by
  unfold idR at h
  simp only [Bool.and_eq_true, decide_eq_true_eq] at h
  exact ⟨h.1, h.2.1⟩
/-- Where the identifier stands, and the identifier. -/
def entL (f : List UInt8) : List UInt8 := (f.drop 1).take 23
def entS (f : List UInt8) : List UInt8 := (entL f).takeWhile fun b => b != 0
/-- Is it an entity identifier behind its length? -/
def entOk (f : List UInt8) : Bool := idR (entS f) && ((entL f).drop (entS f).length).all fun b => b == 0
/-- What ParseEntity returns. -/
def pentR (f : List UInt8) : (List UInt8 × List UInt8) × Int :=
  if ¬ f.length = 32 then (([], []), 1) else if entOk f = true then ((entS f, f.drop 24), 0) else (([], []), 10)

theorem cut_while (l : List UInt8) : (Lib.cut l [0]).1 = l.takeWhile fun b => b != 0 := by
  induction l with
  | nil => rfl
  | cons b l ih =>
    by_cases hb : b = 0
    · subst hb
      rfl
    · have hp : ([0] : List UInt8).isPrefixOf (b :: l) = false := by
        simp [List.isPrefixOf]
        exact fun h => hb h.symm
      have hge := Lib.index_ge l [0]
      have hidx : Lib.index (b :: l) [0] = if (Lib.index l [0] == -1) = true then -1 else Lib.index l [0] + 1 := by
        show (if ([0] : List UInt8).isPrefixOf (b :: l) = true then 0 else if (Lib.index l [0] == -1) = true then -1 else Lib.index l [0] + 1) = _
        rw [hp]
        rfl
      have htw : (b :: l).takeWhile (fun b => b != 0) = b :: l.takeWhile (fun b => b != 0) := by
        rw [List.takeWhile_cons, if_pos (by simpa using hb)]
      unfold Lib.cut at ih ⊢
      rw [htw, ← ih, hidx]
      clear ih hidx htw
      generalize Lib.index l [0] = x at *
      by_cases h1 : x = -1
      · subst h1
        simp
      · have h2 : (x == -1) = false := by rw [beq_eq_false_iff_ne]; exact h1
        rw [h2]
        simp only [Bool.false_eq_true, if_false]
        rw [if_pos (show (0 : Int) ≤ x + 1 by omega), if_pos (show (0 : Int) ≤ x by omega)]
        rw [show (x + 1).toNat = x.toNat + 1 by omega]
        rfl

theorem dw_nil {p : UInt8 → Bool} (l : List UInt8) : l.dropWhile p = [] ↔ ∀ x ∈ l, p x = true := by
  induction l with
  | nil => simp
  | cons a t ih =>
    by_cases h : p a = true
    · rw [List.dropWhile_cons, if_pos h, ih]
      simp [h]
    · rw [List.dropWhile_cons, if_neg h]
      simp [h]
theorem trimB_nil (x : List UInt8) (c : UInt8) : Lib.trimB x c = [] ↔ (x.all fun b => b == c) = true := by
  unfold Lib.trimB Lib.trimLeftB Lib.trimRightB
  rw [dw_nil]
  constructor
  · intro h
    have hn : x.reverse.dropWhile (· == c) = [] := by
      cases hd : x.reverse.dropWhile (· == c) with
      | nil => rfl
      | cons a t =>
        have h1 := h a (by rw [hd]; simp)
        have h2 := List.head_dropWhile_not (p := (· == c)) (l := x.reverse) (by rw [hd]; simp)
        simp only [hd, List.head_cons] at h2
        rw [h1] at h2
        cases h2
    rw [dw_nil] at hn
    rw [List.all_eq_true]
    intro b hb
    exact hn b (by simpa using hb)
  · intro h b hb
    rw [List.all_eq_true] at h
    have hb' : b ∈ x.reverse.dropWhile (· == c) := by simpa using hb
    exact h b (by simpa using (List.dropWhile_sublist _).subset hb')
theorem entL_len {f : List UInt8} (h : f.length = 32) : (entL f).length = 23 := by
  unfold entL
  rw [List.length_take, List.length_drop]
  omega
theorem entS_len {f : List UInt8} (h : f.length = 32) : (entS f).length ≤ 23 := by
  rw [← entL_len h]
  unfold entS
  exact (List.takeWhile_sublist _).length_le
/-- An entity identifier's bytes. -/
def entB (i s : List UInt8) : List UInt8 := 0 :: i ++ List.replicate (23 - i.length) 0 ++ s ++ List.replicate (8 - s.length) 0
theorem while_len (l : List UInt8) (k : Nat) (hk : k ≤ l.length) (h0 : ∀ j, j < k → byt l j ≠ 0) (h1 : k = l.length ∨ byt l k = 0) : (l.takeWhile fun b => b != 0) = l.take k := by
  induction l generalizing k with
  | nil =>
    have : k = 0 := by simpa using hk
    subst this
    rfl
  | cons a t ih =>
    cases k with
    | zero =>
      rcases h1 with h1 | h1
      · simp at h1
      · have ha : a = 0 := by
          apply UInt8.toNat_inj.1
          exact h1
        subst ha
        rfl
    | succ k =>
      have ha : a ≠ 0 := by
        intro h
        subst h
        exact h0 0 (by omega) rfl
      rw [List.takeWhile_cons, if_pos (by simpa using ha), List.take_succ_cons]
      congr 1
      refine ih k (by simpa using hk) (fun j hj => ?_) ?_
      · exact h0 (j + 1) (by omega)
      · rcases h1 with h1 | h1
        · left; simpa using h1
        · right; exact h1
theorem byt_entL {f : List UInt8} (_h : f.length = 32) (j : Nat) (hj : j < 23) : byt (entL f) j = byt f (1 + j) := by
  unfold entL byt
  simp [List.getD, hj, Nat.add_comm]
theorem zeros_all (l : List UInt8) : (l.all fun b => b == 0) = decide (l = List.replicate l.length 0) := by
  rw [Bool.eq_iff_iff, decide_eq_true_eq, List.all_eq_true]
  constructor
  · intro h
    exact List.eq_replicate_iff.2 ⟨rfl, fun b hb => by simpa using h b hb⟩
  · intro h b hb
    simpa using (List.eq_replicate_iff.1 h).2 b hb
end Cs

theorem all_snocP {p : UInt8 → Bool} {l : List UInt8} {i : Nat} (hi : i < l.length) (h : (l.take i).all p = true) (hp : p (l.getD i 0) = true) : (l.take (i + 1)).all p = true := by
  rw [List.take_succ_eq_append_getElem hi, List.all_append, h]
  simp [List.getD, hi] at hp
  simp [hp]
theorem all_failP {p : UInt8 → Bool} {l : List UInt8} {i : Nat} (hi : i < l.length) (hp : p (l.getD i 0) = false) : l.all p = false := by
  rw [Bool.eq_false_iff]
  intro h
  have := List.all_eq_true.1 h (l.getD i 0) (by simp [List.getD, hi])
  rw [hp] at this
  cases this

theorem lb_size (l : List UInt8) : (⟨l.toArray⟩ : ByteArray).size = l.length := by simp [ByteArray.size]
end Go.Proofs.YthkppbimkjmbnaaGreatDoor

/-
  Plain laws on little-endian numbers and on partition maps as bytes: no program in sight.
-/
namespace Go.Proofs.YthkppbimkjmbnaaGreatDoor
namespace Pm

/-- The k bytes of a number, the least significant one first. -/
def le : Nat → Nat → List UInt8
  | 0, _ => []
  | k + 1, n => UInt8.ofNat n :: le k (n / 256)
/-- The number with some bytes, the least significant one first. -/
def num : List UInt8 → Nat
  | [] => 0
  | b :: t => b.toNat + 256 * num t
theorem le_len (k n : Nat) : (le k n).length = k := by
  induction k generalizing n with
  | zero => rfl
  | succ k ih => simp [le, ih]
theorem num_le (k n : Nat) (h : n < 256 ^ k) : num (le k n) = n := by
  induction k generalizing n with
  | zero => simp at h; subst h; rfl
  | succ k ih =>
    unfold le num
    rw [ih (n / 256) (by rw [Nat.pow_succ] at h; omega), UInt8.toNat_ofNat']
    omega
theorem num_lt (l : List UInt8) : num l < 256 ^ l.length := by
  induction l with
  | nil => simp [num]
  | cons b t ih =>
    have hb : b.toNat < 256 := b.toNat_lt
    simp only [num, List.length_cons, Nat.pow_succ]
    omega
theorem num_append (a b : List UInt8) : num (a ++ b) = num a + 256 ^ a.length * num b := by
  induction a with
  | nil => simp [num]
  | cons x t ih =>
    simp only [List.cons_append, num, ih, List.length_cons, Nat.pow_succ]
    rw [Nat.mul_add, Nat.mul_comm (256 ^ t.length) 256, ← Nat.mul_assoc, Nat.add_assoc]
/-- The number at a place. -/
def at_ (s : List UInt8) (at' size : Nat) : Nat := num ((s.drop at').take size)
theorem at_lt (s : List UInt8) (a k : Nat) : at_ s a k < 256 ^ k := by
  have h := num_lt ((s.drop a).take k)
  refine Nat.lt_of_lt_of_le h (Nat.pow_le_pow_right (by decide) ?_)
  rw [List.length_take]
  omega
theorem at_mid (p q : List UInt8) (k n : Nat) (h : n < 256 ^ k) (a : Nat) (ha : p.length = a) : at_ (p ++ le k n ++ q) a k = n := by
  subst ha
  unfold at_
  rw [List.append_assoc, List.drop_left, List.take_left' (le_len k n), num_le k n h]

structure M where
  kind : Int
  number : Int
  tables : List Int
  file : Int
  mirror : Int
  bitmap : Int

theorem M.ext' {a b : M} (h1 : a.kind = b.kind) (h2 : a.number = b.number) (h3 : a.tables = b.tables) (h4 : a.file = b.file) (h5 : a.mirror = b.mirror) (h6 : a.bitmap = b.bitmap) : a = b := by
  cases a; cases b; simp_all

def word (n : Int) : Bool := decide (0 ≤ n) && decide (n < 4294967296)

def valid (x : M) : Bool :=
  decide (0 ≤ x.kind) && decide (x.kind ≤ 3) && decide (0 ≤ x.number) && decide (x.number ≤ 65535) &&
  (if x.kind = 2 then decide (1 ≤ x.tables.length) && decide (x.tables.length ≤ 4) else decide (x.tables.length = 0)) &&
  (if x.kind = 3 then true else decide (x.file = 0) && (decide (x.mirror = 0) && decide (x.bitmap = 0))) &&
  x.tables.all word && word x.file && word x.mirror && word x.bitmap
def all (l : List M) : Bool := decide (l.length ≤ 4) && l.all valid

/-- The identifiers of the kinds that have one. -/
def nameV : List UInt8 := [42, 85, 68, 70, 32, 86, 105, 114, 116, 117, 97, 108, 32, 80, 97, 114, 116, 105, 116, 105, 111, 110]
def nameS : List UInt8 := [42, 85, 68, 70, 32, 83, 112, 97, 114, 97, 98, 108, 101, 32, 80, 97, 114, 116, 105, 116, 105, 111, 110]
def nameM : List UInt8 := [42, 85, 68, 70, 32, 77, 101, 116, 97, 100, 97, 116, 97, 32, 80, 97, 114, 116, 105, 116, 105, 111, 110]
def nameOf (kind : Int) : List UInt8 := if kind = 1 then nameV else if kind = 2 then nameS else nameM
def kindOf (s : List UInt8) : Int := if s = nameV then 1 else if s = nameS then 2 else if s = nameM then 3 else 0

/-- What stands behind the number of a map of 64 bytes. -/
def body (x : M) : List UInt8 :=
  if x.kind = 2 then le 2 8 ++ le 1 x.tables.length ++ le 1 0 ++ le 4 120 ++ x.tables.flatMap (fun t => le 4 t.toNat)
  else if x.kind = 3 then le 4 x.file.toNat ++ le 4 x.mirror.toNat ++ le 4 x.bitmap.toNat ++ le 4 8 ++ le 2 8 ++ le 1 1
  else []
/-- A map of 64 bytes, without the zeros at its end. -/
def big (x : M) : List UInt8 := [2, 64, 0, 0] ++ Cs.entB (nameOf x.kind) [1, 2] ++ le 2 1 ++ le 2 x.number.toNat ++ body x
/-- The bytes of a map. -/
def bytes (x : M) : List UInt8 :=
  if x.kind = 0 then [1, 6] ++ le 2 1 ++ le 2 x.number.toNat else big x ++ List.replicate (64 - (big x).length) 0
def none : M := ⟨0, 0, [], 0, 0, 0⟩
def tabs (d : List UInt8) (n : Nat) : List Int := (List.range n).map fun i => (at_ d (48 + 4 * i) 4 : Int)
end Pm
end Go.Proofs.YthkppbimkjmbnaaGreatDoor

/-
  The walks through endian.Little and what it calls.
-/
namespace Go.Proofs.YthkppbimkjmbnaaGreatDoor
open Go.RowKit
namespace Pm
/-- Does a number fit? -/
def fitsB (n : Int) (k : Nat) : Bool := decide (0 ≤ n) && (decide (k = 8) || decide (n < 256 ^ k))
/-- The sizes that occur. -/
def Sz (k : Nat) : Prop := k = 1 ∨ k = 2 ∨ k = 4 ∨ k = 6 ∨ k = 8
theorem Sz.le {k : Nat} (h : Sz k) : 1 ≤ k ∧ k ≤ 8 := by unfold Sz at h; omega
end Pm

set_option maxHeartbeats 3200000 in
set_option maxRecDepth 100000 in
/-- endian.fits. -/
theorem fits_any (n : Int) (k : Nat) (hk : Pm.Sz k) (w : World) : Calls Tryz.prog 244 #[.int .i64 n, .int .i64 (k : Int)] w fun e w' => e = .returned (.bool (Pm.fitsB n k)) ∧ w = w' := by
  unfold Pm.fitsB
  by_cases h0 : 0 ≤ n
  · rcases hk with rfl | rfl | rfl | rfl | rfl
    all_goals
      go_enter Tryz.func244, Tryz.ntmps244
      go_wp2
      go_ret
      refine ⟨congrArg (fun b => Ending.returned (.bool b)) ?_, rfl⟩
      simp [h0]
  · have h0' : decide (0 ≤ n) = false := by simpa using h0
    rw [h0']
    go_enter Tryz.func244, Tryz.ntmps244
    go_wp2
    go_ret
    exact ⟨rfl, rfl⟩

set_option maxHeartbeats 1600000 in
set_option maxRecDepth 100000 in
/-- endian.check. -/
theorem check_any (n : Int) (k : Nat) (hk : Pm.Sz k) (w : World) : Calls Tryz.prog 196 #[.int .i64 n, .int .i64 (k : Int)] w fun e w' => e = .returned (.int .i64 (if Pm.fitsB n k = true then 0 else 2)) ∧ w = w' := by
  have CF := Lib.hid (fun W => fits_any n k hk W)
  obtain ⟨h1, h8⟩ := hk.le
  generalize Pm.fitsB n k = b at *
  cases b with
  | true =>
    go_enter Tryz.func196, Tryz.ntmps196
    go_wp2_with fail
    with_reducible refine (CF.out _).mono ?_
    rintro e w2 ⟨rfl, rfl⟩
    go_wp2_with fail
    go_ret
    exact ⟨rfl, rfl⟩
  | false =>
    go_enter Tryz.func196, Tryz.ntmps196
    go_wp2_with fail
    with_reducible refine (CF.out _).mono ?_
    rintro e w2 ⟨rfl, rfl⟩
    go_wp2_with fail
    go_ret
    exact ⟨rfl, rfl⟩

theorem up_any (z : Int) (w : World) : Calls Tryz.prog 173 #[.int .i64 z] w fun e w' => e = .returned (.func (.func 230) #[] #[]) ∧ w = w' := by
  go_enter Tryz.func173, Tryz.ntmps173
  go_wp2
  go_ret
  exact ⟨rfl, rfl⟩
theorem up1_any (z : Int) (w : World) : Calls Tryz.prog 230 #[.int .i64 z] w fun e w' => e = .returned (.int .i64 z) ∧ w = w' := by
  go_enter Tryz.func230, Tryz.ntmps230
  go_wp2
  go_ret
  exact ⟨rfl, rfl⟩
end Go.Proofs.YthkppbimkjmbnaaGreatDoor

/-
  The walks through endian.write and Little.
-/
namespace Go.Proofs.YthkppbimkjmbnaaGreatDoor
open Go.RowKit
namespace Pm
/-- The byte with the weight 256^i. -/
def byteAt (n i : Nat) : Nat := n / 256 ^ i % 256
theorem le_get (k n i : Nat) (h : i < k) : (le k n)[i]? = some (UInt8.ofNat (byteAt n i)) := by
  induction k generalizing n i with
  | zero => omega
  | succ k ih =>
    cases i with
    | zero =>
      simp only [le, List.getElem?_cons_zero, byteAt, Nat.pow_zero, Nat.div_one]
      congr 1
      apply UInt8.toNat_inj.1
      simp [UInt8.toNat_ofNat']
    | succ i =>
      simp only [le, List.getElem?_cons_succ]
      rw [ih (n / 256) i (by omega)]
      unfold byteAt
      rw [Nat.div_div_eq_div_mul, Nat.pow_succ, Nat.mul_comm 256]
theorem byte_shift (n j : Nat) : IntKind.u8.wrap ((n : Int) / 2 ^ (8 * (j : Int)).toNat) = (byteAt n j : Nat) := by
  rw [show (8 * (j : Int)).toNat = 8 * j by omega, IntKind.wrap_u8]
  unfold byteAt
  rw [show (256 : Nat) ^ j = 2 ^ (8 * j) by rw [Nat.pow_mul]]
  simp only [Int.natCast_emod, Int.natCast_ediv, Int.natCast_pow]
  rfl
end Pm

set_option maxHeartbeats 3200000 in
set_option maxRecDepth 100000 in
/-- endian.write. -/
theorem write_any (n : Nat) (k : Nat) (hk : k ≤ 8) (w : World) :
    Calls Tryz.prog 197 #[.int .i64 (n : Int), .int .i64 (k : Int), .func (.func 230) #[] #[]] w fun e w' => e = .returned (.string ⟨(Pm.le k n).toArray⟩) ∧ Below w.heap.size w w' := by
  have hmk := run_make_row' (P := Tryz.prog) 126 5 (.int .u8 0) 1 Tryz.underlying126 byteInfo rfl .i64 .i64 k (by omega) (by omega)
  go_enter Tryz.func197, Tryz.ntmps197
  go_wp2_with fail
  go_loopw [8, 12] (fun _ iv wr => ∃ j : Nat, j ≤ k ∧ iv = .int .i64 j ∧ wr.rowIs w.heap.size 5 k (fun i => .int .u8 (if i < j then (Pm.byteAt n i : Nat) else 0 : Nat)) ∧ Below w.heap.size w wr) (fun _ iv _ => k - (intOf iv).toNat)
  case atStart => exact ⟨0, by omega, rfl, (World.rowIs_made w (.int .u8 0) k 5).congr (fun i _ => by simp), (Below.refl _ _).alloc (Nat.le_refl _) _⟩
  case round =>
    obtain ⟨j, hj, rfl, hrow, hbw⟩ := hrel
    by_cases hlt : j < k
    · have hc := hrow.cell hlt
      have hf := hrow.frozen j
      have y1 : IntKind.i64.wrap (8 * (j : Int)) = 8 * (j : Int) := IntWalk.i64_in _ (by omega)
      have hk' : (k : Int) ≤ 8 := by omega
      have hlt' : (j : Int) < (k : Int) := by omega
      go_wp2_with fail
      go_region_with (go_at_call 230; refine (up1_any _ _).mono ?_; rintro e w2 ⟨rfl, rfl⟩)
      rw [Pm.byte_shift n j]
      have hset := hrow.set j (.int .u8 (Pm.byteAt n j : Nat))
      have HS := Lib.hid hset
      have HB := Lib.hid ((hbw.setCell (p := ⟨w.heap.size, j, none⟩) (Nat.le_refl _) (.int .u8 (Pm.byteAt n j : Nat))).drew)
      clear hset hrow hbw hc hf
      generalize hx : Pm.byteAt n j = x at *
      have HX := Lib.hid hx
      clear hx
      go_wp2_with fail
      go_roundw
      case rel => exact ⟨j + 1, by omega, by go_num, HS.out.drew.congr (fun i hi => by
        by_cases hij : i = j
        · subst hij; rw [HX.out]; simp
        · by_cases h2 : i < j
          · have : i < j + 1 := by omega
            simp [hij, h2, this]
          · have : ¬ i < j + 1 := by omega
            simp [hij, h2, this]), HB.out⟩
      case measure => simp [intOf]; omega
    · obtain rfl : j = k := by omega
      have hcv := run_convert_bytes_back (P := Tryz.prog) wr 126 9 5 ⟨w.heap.size, 0, none⟩ j (Pm.le j n) Tryz.underlying126 Tryz.underlying5 Tryz.underlying9 (fun i hi => by
        rw [Pm.le_len] at hi
        rw [Addr.add_lit, Nat.zero_add, hrow.cell hi, if_pos hi]
        have := Pm.le_get j n i hi
        have hi' : i < (Pm.le j n).length := by rw [Pm.le_len]; exact hi
        rw [List.getElem?_eq_getElem hi', Option.some.injEq] at this
        rw [this, UInt8.toNat_ofNat']
        congr 3
        unfold Pm.byteAt
        omega)
      rw [Pm.le_len] at hcv
      go_wp2_with fail
      go_ret
      exact ⟨rfl, hbw⟩
end Go.Proofs.YthkppbimkjmbnaaGreatDoor

/-
  The walks through allocation.EncodeLong of one extent.
-/
import Derived.Test.YthkppbimkjmbnaaGreatDoorZB
import Derived.Test.YthkppbimkjmbnaaGreatDoorZy
namespace Go.Proofs.YthkppbimkjmbnaaGreatDoor
open Go.RowKit
namespace Pm
theorem leR_len (n : Int) (k : Nat) : (leR n k).length ≤ k := by
  unfold leR
  split
  · rw [le_len]; exact Nat.le_refl _
  · simp
end Pm
theorem aLittle_k (n : Int) (k : Nat) (K : Int) (hK : K = (k : Int)) (hk : Pm.Sz k) (w : World) : Calls Tryz.prog 193 #[.int .i64 n, .int .i64 K] w fun e w' => e = .returned (.string ⟨(Pm.leR n k).toArray⟩) ∧ Below w.heap.size w w' := by
  subst hK
  exact aLittle_any n k hk w

set_option maxHeartbeats 1600000 in
set_option maxRecDepth 100000 in
/-- allocation.EncodeLong$1. -/
theorem restLong_any (x : Pm.X) (w : World) :
    Calls Tryz.prog 192 #[Pm.exV x] w fun e w' => e = .returned (.string (⟨(Pm.leR x.part 2).toArray⟩ ++ ⟨(Pm.leR 0 6).toArray⟩)) ∧ Below w.heap.size w w' := by
  have C1 := Lib.hid (fun W => aLittle_k x.part 2 2 rfl (by unfold Pm.Sz; omega) W)
  have C2 := Lib.hid (fun W => aLittle_k 0 6 6 rfl (by unfold Pm.Sz; omega) W)
  unfold Pm.exV
  obtain ⟨k, n, b, p⟩ := x
  simp only [] at *
  have h1 : (Pm.leR p 2).length ≤ 2 := Pm.leR_len _ _
  have h2 : (Pm.leR 0 6).length ≤ 6 := Pm.leR_len _ _
  generalize Pm.leR p 2 = l1 at *
  generalize Pm.leR 0 6 = l2 at *
  go_enter Tryz.func192, Tryz.ntmps192
  go_wp2_with fail
  with_reducible refine (C1.out _).mono ?_
  rintro e w2 ⟨rfl, hb2⟩
  have HB2 := Lib.hid (((Below.refl _ _).alloc (Nat.le_refl _) _).trans (hb2.mono (B' := w.heap.size) (by simp)))
  clear hb2
  go_wp2_with fail
  with_reducible refine (C2.out _).mono ?_
  rintro e w3 ⟨rfl, hb3⟩
  go_wp2_with fail
  go_ret
  exact ⟨rfl, HB2.out.trans (hb3.mono HB2.out.size)⟩

/-- A string comes back. -/
def StrP (w : World) (e : Ending) (w' : World) : Prop := ∃ s : ByteArray, e = .returned (.string s) ∧ Below w.heap.size w w'
set_option maxHeartbeats 3200000 in
set_option maxRecDepth 100000 in
/-- allocation.encode, of one extent. -/
theorem encodeOne_any (v : Value) (x : Pm.X) (w : World) (hm : Pm.ExtsAt w v [x]) (hx : Pm.formed1 x = true) :
    Calls Tryz.prog 191 #[v, .func (.func 192) #[] #[]] w (StrP w) := by
  have hx := (Pm.formed1_iff x).1 hx
  obtain ⟨A, c, rfl, hlc, hcm, hcells⟩ := hm.row
  obtain ⟨bl, o, rfl, hbl, hc⟩ := hcells (by simp)
  have hcc := hc 0 (by simp)
  have CR := Lib.hid (fun W => restLong_any x W)
  clear hc hcells hm
  have hcc := Lib.hid hcc
  unfold Pm.exV at CR
  obtain ⟨k, n, b, p⟩ := x
  simp only [List.getD_cons_zero] at *
  obtain ⟨x1, x2, x3, x4, x5, x6, x7, x8⟩ := hx
  have C1 := Lib.hid (fun W => aLittle_k (n + 1073741824 * k) 4 4 rfl (by unfold Pm.Sz; omega) W)
  have C2 := Lib.hid (fun W => aLittle_k b 4 4 rfl (by unfold Pm.Sz; omega) W)
  have z3 : (⟨(Pm.leR p 2).toArray⟩ ++ ⟨(Pm.leR 0 6).toArray⟩ : ByteArray).size ≤ 8 := by
    have h1 := Pm.leR_len p 2
    have h2 := Pm.leR_len 0 6
    rw [Kit.append_mk]
    show ((Pm.leR p 2 ++ Pm.leR 0 6).toArray).size ≤ 8
    rw [List.size_toArray, List.length_append]
    omega
  have z1 := Pm.leR_len (n + 1073741824 * k) 4
  have z2 := Pm.leR_len b 4
  generalize (⟨(Pm.leR p 2).toArray⟩ ++ ⟨(Pm.leR 0 6).toArray⟩ : ByteArray) = s3 at *
  generalize Pm.leR (n + 1073741824 * k) 4 = l1 at *
  generalize Pm.leR b 4 = l2 at *
  simp only [List.length_cons, List.length_nil, Nat.zero_add] at *
  go_enter Tryz.func191, Tryz.ntmps191
  go_wp2_with fail
  go_loopw [5, 7, 10] (fun sv _ iv wr => ∃ (j : Nat) (s : ByteArray), j ≤ 1 ∧ iv = .int .i64 j ∧ sv = .string s ∧ s.size ≤ 16 * j ∧ Below w.heap.size w wr) (fun _ _ iv _ => 1 - (intOf iv).toNat)
  case atStart => exact ⟨0, ⟨#[]⟩, by omega, rfl, rfl, Nat.le_refl _, Below.refl _ _⟩
  case round =>
    obtain ⟨j, s, hj, rfl, rfl, hs, hbw⟩ := hrel
    by_cases hlt : j < 1
    · obtain rfl : j = 0 := by omega
      obtain ⟨c0, c1, c2, c3⟩ := Pm.four (x := ⟨k, n, b, p⟩) (j := 0) hbl hbw hcc.out
      simp only [Nat.zero_mul, Nat.add_zero] at c0 c1 c2 c3
      have HBW := Lib.hid (hbw.alloc hbw.size (.cells #[.int .i64 k, .int .i64 n, .int .i64 b, .int .i64 p] 44))
      have hnew := fun (q : Nat) (u : Value) (h : (#[.int .i64 k, .int .i64 n, .int .i64 b, .int .i64 p] : Array Value)[q]? = some u) => (show (wr.alloc (.cells #[.int .i64 k, .int .i64 n, .int .i64 b, .int .i64 p] 44)).cell? ⟨wr.heap.size, q, none⟩ = some u by rw [World.cell?_alloc_at _ _ _ _ (by simp)]; simpa using h)
      have hlw : wr.heap.size < (wr.alloc (.cells #[.int .i64 k, .int .i64 n, .int .i64 b, .int .i64 p] 44)).heap.size := by simp
      have y0 := fun x : Later (wr.alloc (.cells #[.int .i64 k, .int .i64 n, .int .i64 b, .int .i64 p] 44)).heap.size (wr.alloc (.cells #[.int .i64 k, .int .i64 n, .int .i64 b, .int .i64 p] 44)) => later_cell x hlw (hnew 0 _ rfl)
      have y1 := fun x : Later (wr.alloc (.cells #[.int .i64 k, .int .i64 n, .int .i64 b, .int .i64 p] 44)).heap.size (wr.alloc (.cells #[.int .i64 k, .int .i64 n, .int .i64 b, .int .i64 p] 44)) => later_cell x hlw (hnew 1 _ rfl)
      have y2 := fun x : Later (wr.alloc (.cells #[.int .i64 k, .int .i64 n, .int .i64 b, .int .i64 p] 44)).heap.size (wr.alloc (.cells #[.int .i64 k, .int .i64 n, .int .i64 b, .int .i64 p] 44)) => later_cell x hlw (hnew 2 _ rfl)
      have y3 := fun x : Later (wr.alloc (.cells #[.int .i64 k, .int .i64 n, .int .i64 b, .int .i64 p] 44)).heap.size (wr.alloc (.cells #[.int .i64 k, .int .i64 n, .int .i64 b, .int .i64 p] 44)) => later_cell x hlw (hnew 3 _ rfl)
      have hw1 : IntKind.i64.wrap (1073741824 * k) = 1073741824 * k := IntWalk.i64_in _ (by omega)
      have hw2 : IntKind.i64.wrap (n + 1073741824 * k) = n + 1073741824 * k := IntWalk.i64_in _ (by omega)
      clear hnew hlw
      go_wp2_with fail
      refine wp_region_later (wr.alloc (.cells #[.int .i64 k, .int .i64 n, .int .i64 b, .int .i64 p] 44)).heap.size (by kernel_rfl) (by kernel_rfl) ?_
      repeat (any_goals (first | go_big_quiet_skip | (go_big_quiet_want; go_big_quiet_op; first | go_big_quiet_on | (apply Exists.intro; refine ⟨fun _ => ?_, ?_⟩; (first | (with_reducible refine Calls.later_of ?_ (C1.out _); simp) | (with_reducible refine Calls.later_of ?_ (C2.out _); simp) | (with_reducible refine Calls.later_of ?_ (CR.out _); simp)); go_big_quiet_on))))
      refine wpQuiet_nil ?_
      intro wq hw'
      obtain ⟨⟨wz, hbq⟩, hw''⟩ := hw'
      subst hw''
      clear y0 y1 y2 y3
      go_wp2_with fail
      go_roundw
      case rel =>
        refine ⟨1, _, by omega, by go_num, rfl, ?_, HBW.out.trans (hbq.mono HBW.out.size)⟩
        have e1 : (⟨l1.toArray⟩ : ByteArray).size = l1.length := List.size_toArray ..
        have e2 : (⟨l2.toArray⟩ : ByteArray).size = l2.length := List.size_toArray ..
        simp only [ByteArray.size_append, e1, e2]
        omega
      case measure => simp [intOf]
    · obtain rfl : j = 1 := by omega
      go_wp2_with fail
      go_ret
      exact ⟨s, rfl, hbw⟩

/-- A string and a code come back. -/
def StrE (c : Int) (w : World) (e : Ending) (w' : World) : Prop := ∃ s : ByteArray, e = .returned (.tuple #[.string s, .int .i64 c]) ∧ Below w.heap.size w w'
theorem StrE.mk' {c : Int} {w w' : World} {e : Ending} (s : ByteArray) (he : e = .returned (.tuple #[.string s, .int .i64 c])) (hb : Below w.heap.size w w') : StrE c w e w' := ⟨s, he, hb⟩
theorem StrP.mk' {w w' : World} {e : Ending} (s : ByteArray) (he : e = .returned (.string s)) (hb : Below w.heap.size w w') : StrP w e w' := ⟨s, he, hb⟩
set_option maxHeartbeats 1600000 in
set_option maxRecDepth 100000 in
/-- allocation.EncodeLong, of one extent. -/
theorem encodeLong_one (v : Value) (x : Pm.X) (w : World) (hm : Pm.ExtsAt w v [x]) :
    Calls Tryz.prog 126 #[v] w (StrE (if Pm.formed1 x = true then 0 else 1) w) := by
  have CF := Lib.hid (fun W h => formed_any v [x] W h)
  have hfx : Pm.formed [x] = Pm.formed1 x := by simp [Pm.formed]
  rw [hfx] at CF
  have HM := Lib.hid hm
  obtain ⟨A, c, rfl, _, _, _⟩ := hm.row
  cases hx : Pm.formed1 x with
  | true =>
    have CE := Lib.hid (fun W h => encodeOne_any (.slice A 1 c) x W h hx)
    rw [hx] at CF
    clear hm hfx hx
    go_enter Tryz.func126, Tryz.ntmps126
    go_wp2_with fail
    refine (CF.out _ HM.out).mono ?_
    rintro e w2 ⟨rfl, hb2⟩
    go_wp2_with fail
    refine (CE.out _ (HM.out.below hb2)).mono ?_
    rintro e w3 ⟨s, rfl, hb3⟩
    go_wp2_with fail
    go_ret2
    exact StrE.mk' s rfl (hb2.trans (hb3.mono hb2.size))
  | false =>
    rw [hx] at CF
    clear hm hfx hx
    go_enter Tryz.func126, Tryz.ntmps126
    go_wp2_with fail
    refine (CF.out _ HM.out).mono ?_
    rintro e w2 ⟨rfl, hb2⟩
    go_wp2_with fail
    go_ret2
    exact StrE.mk' ⟨#[]⟩ rfl hb2
end Go.Proofs.YthkppbimkjmbnaaGreatDoor

/-
  Plain laws on descriptor tags: checksums, CRC, slices of bytes; no program in sight.
-/
namespace Go.Proofs.YthkppbimkjmbnaaGreatDoor
namespace Vs
open Pm (le num at_ le_len num_le num_lt)
/-- A slice of bytes. -/
def sl (s : List UInt8) (a n : Nat) : List UInt8 := (s.drop a).take n
theorem at_sl (s : List UInt8) (a k : Nat) : at_ s a k = num (sl s a k) := rfl
theorem sl_skip {p q : List UInt8} {a n : Nat} (h : p.length ≤ a) : sl (p ++ q) a n = sl q (a - p.length) n := by
  unfold sl
  rw [List.drop_append, List.drop_eq_nil_of_le h, List.nil_append]
theorem sl_head (p q : List UInt8) : sl (p ++ q) 0 p.length = p := by
  unfold sl
  rw [List.drop_zero, List.take_left]
theorem sl_len {s : List UInt8} {a n : Nat} (h : a + n ≤ s.length) : (sl s a n).length = n := by
  unfold sl
  rw [List.length_take, List.length_drop]
  omega
/-- A piece of a text at its place. -/
theorem sl_mid {s p m q : List UInt8} {a n : Nat} (hs : s = p ++ (m ++ q)) (ha : p.length = a) (hn : m.length = n) : sl s a n = m := by
  subst hs ha hn
  rw [sl_skip (Nat.le_refl _), Nat.sub_self, sl_head]
theorem at_mid {s p q : List UInt8} {a k n : Nat} (hs : s = p ++ (le k n ++ q)) (ha : p.length = a) (hn : n < 256 ^ k) : at_ s a k = n := by
  rw [at_sl, sl_mid hs ha (le_len k n), num_le k n hn]
theorem sl_left {p q : List UInt8} {a n : Nat} (h : a + n ≤ p.length) : sl (p ++ q) a n = sl p a n := by
  unfold sl
  rw [List.drop_append_of_le_length (by omega), List.take_append_of_le_length (by rw [List.length_drop]; omega)]
/-- The sum of bytes. -/
def sumR (l : List UInt8) : Nat := l.foldl (fun s b => (s + b.toNat) % 256) 0
theorem sumR_snoc (l : List UInt8) (b : UInt8) : sumR (l ++ [b]) = (sumR l + b.toNat) % 256 := by simp [sumR]
theorem sumR_lt (l : List UInt8) : sumR l < 256 := by
  rcases List.eq_nil_or_concat l with rfl | ⟨t, b, rfl⟩
  · decide
  · rw [List.concat_eq_append, sumR_snoc]
    exact Nat.mod_lt _ (by decide)
/-- The CRC: one bit, one byte, a text. -/
def crcBit (n : Nat) : Nat := if n / 32768 = 1 then (n * 2 % 65536) ^^^ 4129 else n * 2 % 65536
def crcBits : Nat → Nat → Nat
  | 0, n => n
  | k + 1, n => crcBits k (crcBit n)
def crcTab (b : Nat) : Nat := crcBits 8 (b * 256)
def crcStep (c b : Nat) : Nat := (c * 256 % 65536) ^^^ crcTab (c / 256 ^^^ b)
def crcR (l : List UInt8) : Nat := l.foldl (fun c b => crcStep c b.toNat) 0
theorem crcR_snoc (l : List UInt8) (b : UInt8) : crcR (l ++ [b]) = crcStep (crcR l) b.toNat := by simp [crcR]
theorem crcBit_lt (n : Nat) : crcBit n < 65536 := by
  unfold crcBit
  split
  · exact Nat.xor_lt_two_pow (n := 16) (Nat.mod_lt _ (by decide)) (by decide)
  · exact Nat.mod_lt _ (by decide)
theorem crcBits_snoc (k n : Nat) : crcBits (k + 1) n = crcBit (crcBits k n) := by
  induction k generalizing n with
  | zero => rfl
  | succ k ih => exact ih (crcBit n)
theorem crcBits_lt {n : Nat} (h : n < 65536) (k : Nat) : crcBits k n < 65536 := by
  cases k with
  | zero => exact h
  | succ k => rw [crcBits_snoc]; exact crcBit_lt _
theorem crcTab_lt {b : Nat} (h : b < 256) : crcTab b < 65536 := crcBits_lt (by omega) 8
theorem crcStep_lt {c b : Nat} (hc : c < 65536) (hb : b < 256) : crcStep c b < 65536 :=
  Nat.xor_lt_two_pow (n := 16) (Nat.mod_lt _ (by decide)) (crcTab_lt (Nat.xor_lt_two_pow (n := 8) (by omega) hb))
theorem crcR_lt (l : List UInt8) : crcR l < 65536 := by
  have : ∀ (l : List UInt8) (c : Nat), c < 65536 → l.foldl (fun c b => crcStep c b.toNat) c < 65536 := by
    intro l
    induction l with
    | nil => intro c h; exact h
    | cons b t ih => intro c h; exact ih _ (crcStep_lt h b.toNat_lt)
  exact this l 0 (by decide)

def z (n : Nat) : List UInt8 := List.replicate n 0
theorem z_len (n : Nat) : (z n).length = n := List.length_replicate
theorem z_add (m n : Nat) : z m ++ z n = z (m + n) := List.replicate_append_replicate
/-- The checksum of a tag. -/
def sumT (s : List UInt8) : Nat := sumR (sl s 0 4 ++ sl s 5 11)
/-- A tag. -/
def tagH (id : Nat) : List UInt8 := le 2 id ++ le 2 3
def tagE (ser loc : Nat) (body : List UInt8) : List UInt8 := 0 :: (le 2 ser ++ (le 2 (crcR body) ++ (le 2 body.length ++ le 4 loc)))
def tagR (id ser loc : Nat) (body : List UInt8) : List UInt8 := tagH id ++ (UInt8.ofNat (sumR (tagH id ++ tagE ser loc body)) :: tagE ser loc body)
theorem tagH_len (id : Nat) : (tagH id).length = 4 := by simp [tagH, le_len]
theorem tagE_len (ser loc : Nat) (body : List UInt8) : (tagE ser loc body).length = 11 := by simp [tagE, le_len]
theorem tagR_len (id ser loc : Nat) (body : List UInt8) : (tagR id ser loc body).length = 16 := by simp [tagR, tagH_len, tagE_len]
def fit (n : Int) (k : Nat) : Bool := decide (0 ≤ n) && decide (n < 256 ^ k)
theorem fit_iff (n : Int) (k : Nat) : fit n k = true ↔ 0 ≤ n ∧ n < 256 ^ k := by simp [fit]
/-- What Seal and Block return. -/
def sealR (id ser loc : Int) (body : List UInt8) (limit : Nat) : List UInt8 × Int :=
  if (fit id 2 && (fit ser 2 && fit loc 4)) = true then (if limit < body.length then ([], 7) else (tagR id.toNat ser.toNat loc.toNat body ++ body, 0)) else ([], 2)
def blockR (id ser loc : Int) (body : List UInt8) : List UInt8 × Int :=
  if (sealR id ser loc body 2032).2 = 0 then ((sealR id ser loc body 2032).1 ++ z (2048 - (sealR id ser loc body 2032).1.length), 0) else ([], (sealR id ser loc body 2032).2)
/-- The block of a descriptor. -/
def blk (id ser loc : Nat) (body : List UInt8) : List UInt8 := tagR id ser loc body ++ (body ++ z (2032 - body.length))
theorem blk_len {id ser loc : Nat} {body : List UInt8} (h : body.length ≤ 2032) : (blk id ser loc body).length = 2048 := by
  unfold blk
  rw [List.length_append, List.length_append, tagR_len, z_len]
  omega
theorem blockR_ok {id ser loc : Nat} {body : List UInt8} (h1 : id < 65536) (h2 : ser < 65536) (h3 : loc < 4294967296) (hb : body.length ≤ 2032) : blockR id ser loc body = (blk id ser loc body, 0) := by
  have e : sealR id ser loc body 2032 = (tagR id ser loc body ++ body, 0) := by
    unfold sealR
    rw [if_pos (by rw [Bool.and_eq_true, Bool.and_eq_true, fit_iff, fit_iff, fit_iff]; omega), if_neg (by omega), Int.toNat_natCast, Int.toNat_natCast, Int.toNat_natCast]
  unfold blockR
  rw [e, if_pos rfl]
  simp only []
  rw [List.length_append, tagR_len, List.append_assoc, show 2048 - (16 + body.length) = 2032 - body.length by omega]
  rfl
/-- The faults of a string for a location. -/
def faultsR (s : List UInt8) (loc : Int) : List Int :=
  if s.length < 16 then [1] else
    (if Cs.byt s 4 = sumT s then [] else [2]) ++ ((if at_ s 2 2 = 2 ∨ at_ s 2 2 = 3 then [] else [3]) ++
    ((if s.length - 16 < at_ s 10 2 then [4] else if at_ s 8 2 = crcR (sl s 16 (at_ s 10 2)) then [] else [5]) ++
    (if (at_ s 12 4 : Int) = loc then [] else [6])))
theorem faults_iff (s : List UInt8) (loc : Int) : faultsR s loc = [] ↔ 16 ≤ s.length ∧ Cs.byt s 4 = sumT s ∧ (at_ s 2 2 = 2 ∨ at_ s 2 2 = 3) ∧ at_ s 10 2 ≤ s.length - 16 ∧ at_ s 8 2 = crcR (sl s 16 (at_ s 10 2)) ∧ (at_ s 12 4 : Int) = loc := by
  unfold faultsR
  by_cases h0 : s.length < 16
  · rw [if_pos h0]
    constructor
    · intro h; cases h
    · intro h; omega
  rw [if_neg h0, List.append_eq_nil_iff, List.append_eq_nil_iff, List.append_eq_nil_iff]
  constructor
  · rintro ⟨h1, h2, h3, h4⟩
    refine ⟨by omega, ?_, ?_, ?_, ?_, ?_⟩
    · by_cases g : Cs.byt s 4 = sumT s
      · exact g
      · rw [if_neg g] at h1; cases h1
    · by_cases g : at_ s 2 2 = 2 ∨ at_ s 2 2 = 3
      · exact g
      · rw [if_neg g] at h2; cases h2
    · by_cases g : s.length - 16 < at_ s 10 2
      · rw [if_pos g] at h3; cases h3
      · omega
    · by_cases g : s.length - 16 < at_ s 10 2
      · rw [if_pos g] at h3; cases h3
      · rw [if_neg g] at h3
        by_cases g2 : at_ s 8 2 = crcR (sl s 16 (at_ s 10 2))
        · exact g2
        · rw [if_neg g2] at h3; cases h3
    · by_cases g : (at_ s 12 4 : Int) = loc
      · exact g
      · rw [if_neg g] at h4; cases h4
  · rintro ⟨_, h1, h2, h3, h4, h5⟩
    exact ⟨if_pos h1, if_pos h2, by rw [if_neg (by omega), if_pos h4], if_pos h5⟩
/-- What Open returns, and Is. -/
def openR (s : List UInt8) (loc : Int) : ((Int × Int × Int × Int) × List UInt8) × Int :=
  if faultsR s loc = [] then ((((at_ s 0 2 : Nat), (at_ s 6 2 : Nat), (at_ s 10 2 : Nat), (at_ s 12 4 : Nat)), sl s 16 (at_ s 10 2)), 0) else (((0, 0, 0, 0), []), 10)
def isR (s : List UInt8) (id loc : Int) : Bool := decide (faultsR s loc = []) && decide ((at_ s 0 2 : Int) = id)
/-- The parts of a block of a descriptor. -/
theorem blk_parts (id ser loc : Nat) (body : List UInt8) : blk id ser loc body = le 2 id ++ (le 2 3 ++ ([UInt8.ofNat (sumR (tagH id ++ tagE ser loc body)), 0] ++ (le 2 ser ++ (le 2 (crcR body) ++ (le 2 body.length ++ (le 4 loc ++ (body ++ z (2032 - body.length)))))))) := by
  unfold blk tagR tagE tagH
  simp only [List.append_assoc, List.cons_append, List.nil_append]
theorem blk_at (id ser loc : Nat) (body : List UInt8) (h1 : id < 65536) (h2 : ser < 65536) (h3 : loc < 4294967296) (hb : body.length ≤ 2032) :
    at_ (blk id ser loc body) 0 2 = id ∧ at_ (blk id ser loc body) 2 2 = 3 ∧ at_ (blk id ser loc body) 6 2 = ser ∧ at_ (blk id ser loc body) 8 2 = crcR body ∧ at_ (blk id ser loc body) 10 2 = body.length ∧ at_ (blk id ser loc body) 12 4 = loc ∧ sl (blk id ser loc body) 16 body.length = body := by
  have hp := blk_parts id ser loc body
  have hc := crcR_lt body
  refine ⟨?_, ?_, ?_, ?_, ?_, ?_, ?_⟩
  · exact at_mid (p := []) hp rfl (by omega)
  · exact at_mid (p := le 2 id) hp (by simp [le_len]) (by decide)
  · exact at_mid (p := le 2 id ++ (le 2 3 ++ [UInt8.ofNat (sumR (tagH id ++ tagE ser loc body)), 0])) (by rw [hp]; simp only [List.append_assoc]; rfl) (by simp [le_len]) (by omega)
  · exact at_mid (p := le 2 id ++ (le 2 3 ++ ([UInt8.ofNat (sumR (tagH id ++ tagE ser loc body)), 0] ++ le 2 ser))) (by rw [hp]; simp only [List.append_assoc]; rfl) (by simp [le_len]) (by omega)
  · exact at_mid (p := le 2 id ++ (le 2 3 ++ ([UInt8.ofNat (sumR (tagH id ++ tagE ser loc body)), 0] ++ (le 2 ser ++ le 2 (crcR body))))) (by rw [hp]; simp only [List.append_assoc]; rfl) (by simp [le_len]) (by omega)
  · exact at_mid (p := le 2 id ++ (le 2 3 ++ ([UInt8.ofNat (sumR (tagH id ++ tagE ser loc body)), 0] ++ (le 2 ser ++ (le 2 (crcR body) ++ le 2 body.length))))) (by rw [hp]; simp only [List.append_assoc]; rfl) (by simp [le_len]) (by omega)
  · exact sl_mid (p := tagR id ser loc body) (q := z (2032 - body.length)) rfl (tagR_len _ _ _ _) rfl
theorem blk_sum (id ser loc : Nat) (body : List UInt8) : Cs.byt (blk id ser loc body) 4 = sumT (blk id ser loc body) := by
  have e1 : sl (blk id ser loc body) 0 4 = tagH id := sl_mid (p := []) (q := UInt8.ofNat (sumR (tagH id ++ tagE ser loc body)) :: (tagE ser loc body ++ (body ++ z (2032 - body.length)))) (by simp [blk, tagR]) rfl (tagH_len id)
  have e2 : sl (blk id ser loc body) 5 11 = tagE ser loc body := sl_mid (p := tagH id ++ [UInt8.ofNat (sumR (tagH id ++ tagE ser loc body))]) (q := body ++ z (2032 - body.length)) (by simp [blk, tagR]) (by simp [tagH_len]) (tagE_len _ _ _)
  unfold sumT
  rw [e1, e2]
  have e3 : Cs.byt (blk id ser loc body) 4 = (UInt8.ofNat (sumR (tagH id ++ tagE ser loc body))).toNat := rfl
  rw [e3, UInt8.toNat_ofNat', Nat.mod_eq_of_lt (sumR_lt _)]
theorem blk_faults (id ser loc : Nat) (body : List UInt8) (h1 : id < 65536) (h2 : ser < 65536) (h3 : loc < 4294967296) (hb : body.length ≤ 2032) (l : Int) : faultsR (blk id ser loc body) l = if l = loc then [] else [6] := by
  obtain ⟨_, a2, _, a4, a5, a6, a7⟩ := blk_at id ser loc body h1 h2 h3 hb
  unfold faultsR
  rw [if_neg (by rw [blk_len hb]; omega), if_pos (blk_sum id ser loc body), a2, if_pos (.inr rfl), a5, blk_len hb, if_neg (by omega), a4, a7, if_pos rfl, a6, List.nil_append, List.nil_append, List.nil_append]
  by_cases h : l = loc
  · rw [if_pos h, if_pos h.symm]
  · rw [if_neg h, if_neg (fun e => h e.symm)]
theorem blk_is (id ser loc : Nat) (body : List UInt8) (h1 : id < 65536) (h2 : ser < 65536) (h3 : loc < 4294967296) (hb : body.length ≤ 2032) (i l : Int) : isR (blk id ser loc body) i l = (decide (l = loc) && decide (i = id)) := by
  obtain ⟨a1, _⟩ := blk_at id ser loc body h1 h2 h3 hb
  unfold isR
  rw [blk_faults id ser loc body h1 h2 h3 hb, a1]
  by_cases h : l = loc
  · rw [if_pos h, decide_eq_true h, decide_eq_true rfl, Bool.true_and, Bool.true_and]
    exact decide_eq_decide.2 ⟨fun e => e.symm, fun e => e.symm⟩
  · rw [if_neg h, decide_eq_false h, Bool.false_and, decide_eq_false (by simp), Bool.false_and]
end Vs
end Go.Proofs.YthkppbimkjmbnaaGreatDoor

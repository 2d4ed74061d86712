/-
  Plain: how the reference reads a sequence of descriptors; no program in sight.
-/
import Derived.Test.YthkppbimkjmbnaaGreatDoorZX
import Derived.Test.YthkppbimkjmbnaaGreatDoorZE
import Derived.Test.YthkppbimkjmbnaaGreatDoorXg
import Derived.Test.YthkppbimkjmbnaaGreatDoorZV
import Derived.Test.YthkppbimkjmbnaaGreatDoorZn
import Derived.Test.YthkppbimkjmbnaaGreatDoorZk
import Derived.Test.YthkppbimkjmbnaaGreatDoorZN
import Derived.Test.YthkppbimkjmbnaaGreatDoorZB
namespace Go.Proofs.YthkppbimkjmbnaaGreatDoor
namespace Vs
open Pm (le num at_ le_len num_le num_lt)
theorem upd_at (f : Int → Option Pv) (id : Int) (x : Pv) (k : Int) : upd f id x k = if k = id then (match f id with | none => some x | some o => if o.seq < x.seq then some x else some o) else f k := by
  unfold upd
  cases h : f id with
  | none => rfl
  | some o =>
    simp only []
    by_cases hs : o.seq < x.seq
    · rw [if_pos hs, if_pos hs]
    · rw [if_neg hs, if_neg hs]
      by_cases hk : k = id
      · rw [if_pos hk, hk, h]
      · rw [if_neg hk]
/-- The descriptor at an index, if it is one. -/
def pvA (l : List ByteArray) (b : Int) : Option Pv := if b < 0 then none else some ⟨l.getD b.toNat ⟨#[]⟩, b.toNat, sqB (l.getD b.toNat ⟨#[]⟩)⟩
/-- The index that prevails behind a block. -/
def nxt (l : List ByteArray) (j : Nat) (id b : Int) : Int := if idB (l.getD j ⟨#[]⟩) = id ∧ (b < 0 ∨ sqB (l.getD b.toNat ⟨#[]⟩) < sqB (l.getD j ⟨#[]⟩)) then (j : Int) else b
theorem upd_nxt {l : List ByteArray} {f : Int → Option Pv} {id b : Int} (h : f id = pvA l b) (j : Nat) : upd f (idB (l.getD j ⟨#[]⟩)) ⟨l.getD j ⟨#[]⟩, j, sqB (l.getD j ⟨#[]⟩)⟩ id = pvA l (nxt l j id b) := by
  rw [upd_at]
  unfold nxt
  have hj : pvA l (j : Int) = some ⟨l.getD j ⟨#[]⟩, j, sqB (l.getD j ⟨#[]⟩)⟩ := by
    unfold pvA
    rw [if_neg (by omega), Int.toNat_natCast]
  by_cases hi : id = idB (l.getD j ⟨#[]⟩)
  · rw [if_pos hi, ← hi, h]
    by_cases hb : b < 0
    · rw [if_pos ⟨rfl, .inl hb⟩, hj]
      unfold pvA
      rw [if_pos hb]
    · have e : pvA l b = some ⟨l.getD b.toNat ⟨#[]⟩, b.toNat, sqB (l.getD b.toNat ⟨#[]⟩)⟩ := by
        unfold pvA
        rw [if_neg hb]
      rw [e]
      simp only []
      by_cases hs : sqB (l.getD b.toNat ⟨#[]⟩) < sqB (l.getD j ⟨#[]⟩)
      · rw [if_pos hs, if_pos ⟨trivial, .inr hs⟩, hj]
      · rw [if_neg hs, if_neg (fun g => by rcases g.2 with g | g; exact hb g; exact hs g), e]
  · rw [if_neg hi, if_neg (fun g => hi g.1.symm), h]
structure Agr (l : List ByteArray) (f : Int → Option Pv) (a b c : Int) : Prop where
  h0 : f 1 = pvA l a
  h1 : f 5 = pvA l b
  h2 : f 6 = pvA l c
theorem Agr.next {l : List ByteArray} {f : Int → Option Pv} {a b c : Int} (h : Agr l f a b c) (j : Nat) : Agr l (upd f (idB (l.getD j ⟨#[]⟩)) ⟨l.getD j ⟨#[]⟩, j, sqB (l.getD j ⟨#[]⟩)⟩) (nxt l j 1 a) (nxt l j 5 b) (nxt l j 6 c) :=
  ⟨upd_nxt h.h0 j, upd_nxt h.h1 j, upd_nxt h.h2 j⟩
/-- An index of a whole block, or none. -/
def Idx (l : List ByteArray) (b : Int) : Prop := b = -1 ∨ ∃ k : Nat, b = k ∧ k < l.length ∧ (l.getD k ⟨#[]⟩).size = 2048
theorem Idx.next {l : List ByteArray} {b : Int} (h : Idx l b) {j : Nat} (hj : j < l.length) (hs : (l.getD j ⟨#[]⟩).size = 2048) (id : Int) : Idx l (nxt l j id b) := by
  unfold nxt
  split
  · exact .inr ⟨j, rfl, hj, hs⟩
  · exact h
theorem parS_none {l : List ByteArray} {f : Int → Option Pv} {a b c : Int} (h : Agr l f a b c) (n : Nat) (hn : a < 0 ∨ b < 0 ∨ c < 0) : parS (.ok f n) = ((d0, (n : Int)), 6) := by
  rcases hn with g | g | g
  · exact parS_miss (i := 0) (h.h0.trans (if_pos g)) (by decide)
  · exact parS_miss (i := 1) (h.h1.trans (if_pos g)) (by decide)
  · exact parS_miss (i := 2) (h.h2.trans (if_pos g)) (by decide)
theorem pvA_nat (l : List ByteArray) (k : Nat) : pvA l (k : Int) = some ⟨l.getD k ⟨#[]⟩, k, sqB (l.getD k ⟨#[]⟩)⟩ := by
  unfold pvA
  rw [if_neg (by omega), Int.toNat_natCast]
theorem parS_three {l : List ByteArray} {f : Int → Option Pv} {a b c : Nat} (h : Agr l f a b c) (n : Nat) : parS (.ok f n) = par3 ⟨l.getD a ⟨#[]⟩, a, sqB (l.getD a ⟨#[]⟩)⟩ ⟨l.getD b ⟨#[]⟩, b, sqB (l.getD b ⟨#[]⟩)⟩ ⟨l.getD c ⟨#[]⟩, c, sqB (l.getD c ⟨#[]⟩)⟩ :=
  parS_all (h.h0.trans (pvA_nat l a)) (h.h1.trans (pvA_nat l b)) (h.h2.trans (pvA_nat l c))
/-- The rest of the result while some descriptors are read. -/
def exR : D := ⟨⟨bs [120], ⟨#[]⟩, ⟨#[]⟩, ⟨#[]⟩, ⟨#[]⟩, 1, 1, 315532800⟩, q0, 0, ⟨#[]⟩, 0, 1, 0, 0, 0, 0⟩
theorem exR_log : okLog exR = true := by decide +kernel
theorem exR_part : okPart exR.part = true := by decide +kernel
theorem okVol_p1 (b : List UInt8) (v w : Vol) : okVol (p1V b v) = okVol (p1V b w) := rfl
theorem okLog_p1 (b : List UInt8) (d : D) : okLog (p1D b d) = okLog d := rfl
theorem okLog_p2 (b : List UInt8) (d : D) : okLog (p2D b d) = okLog d := rfl
/-- The first descriptor. -/
theorem ref1 (b : List UInt8) : p1E b d0 = if (Cs.parseR (sl b 72 128)).2 = 0 ∧ (readSR (sl b 376 12)).2 = 0 ∧ okD (p1D b exR) = true then 0 else 10 := by
  have e : okD (p1D b exR) = okVol (p1V b d0.vol) := by
    unfold okD
    rw [okLog_p1, exR_log, show (p1D b exR).part = exR.part from rfl, exR_part, Bool.and_true, Bool.and_true]
    rfl
  rw [e]
  rfl
/-- The second descriptor. -/
theorem ref2 (b a : List UInt8) (h : okVol (p1V a d0.vol) = true) : okD (p2D b (p1D a exR)) = okPart (p2P b) := by
  unfold okD
  rw [okLog_p2, okLog_p1, exR_log, show (p2D b (p1D a exR)).vol = p1V a exR.vol from rfl, okVol_p1 a _ d0.vol, h, Bool.and_true, Bool.true_and]
  rfl
/-- The third descriptor. -/
theorem ref3 (c b a : List UInt8) (h : okVol (p1V a d0.vol) = true) (h2 : okPart (p2P b) = true) : okD (p3D c (p2D b (p1D a exR))) = okLog (p3D c (p2D b (p1D a d0))) := by
  unfold okD
  rw [show okVol (p3D c (p2D b (p1D a exR))).vol = okVol (p1V a d0.vol) from rfl, h, show (p3D c (p2D b (p1D a exR))).part = p2P b from rfl, h2, Bool.true_and, Bool.true_and]
  rfl
end Vs
end Go.Proofs.YthkppbimkjmbnaaGreatDoor

/-
  The walks through the reference's zero, and its DecodeLong of sixteen bytes.
-/
namespace Go.Proofs.YthkppbimkjmbnaaGreatDoor
set_option linter.unusedVariables false
open Go.RowKit
open Vs (bs by_)
namespace Vs
theorem zero_iff (s : ByteArray) : by_ s = z 2048 ↔ s.size = 2048 ∧ ∀ j (h : j < s.size), (s[j]'h).toNat = 0 := by
  have hdl := Kit.len_size s
  constructor
  · intro e
    have hl : s.size = 2048 := by rw [← by_len, e, z_len]
    refine ⟨hl, fun j h => ?_⟩
    have hj : (by_ s)[j]? = some (s[j]'h) := by
      show s.data.toList[j]? = _
      rw [List.getElem?_eq_getElem (by rw [hdl]; exact h)]
      rfl
    rw [e] at hj
    unfold z at hj
    rw [List.getElem?_replicate, if_pos (by omega)] at hj
    have := Option.some.inj hj
    rw [← this]
    rfl
  · rintro ⟨hl, h⟩
    refine List.eq_replicate_iff.2 ⟨by rw [by_len, hl], fun b hb => ?_⟩
    obtain ⟨j, hj, rfl⟩ := List.mem_iff_getElem.1 hb
    have hj' : j < s.size := by rw [by_len] at hj; exact hj
    exact UInt8.toNat_inj.1 (h j hj')
theorem ownX_new (w : World) : OwnX (w.alloc (.cells #[] 44)) w.heap.size (.slice (some ⟨w.heap.size, 0, none⟩) 0 0) [] :=
  ⟨rfl, Or.inr ⟨w.heap.size, 0, #[], rfl, Nat.le_refl _, heap_alloc_new w _, Nat.le_refl _, by unfold maxLen; omega, rfl, rfl⟩⟩
end Vs

set_option maxHeartbeats 1600000 in
set_option maxRecDepth 100000 in
/-- masterdiscref36.zero. -/
theorem r36Zero_any (s : ByteArray) (w : World) (hs : s.size ≤ 9223372036854775807) :
    Calls Tryz.prog 85 #[.string s] w fun e w' => e = .returned (.bool (decide (by_ s = Vs.z 2048))) ∧ w = w' := by
  have HZ := Lib.hid (Vs.zero_iff s)
  go_enter Tryz.func85, Tryz.ntmps85
  go_wp2_with fail
  go_loop [3] (fun iv => ∃ i : Nat, i ≤ s.size ∧ iv = .int .i64 i ∧ Hid (∀ j (h : j < s.size), j < i → (s[j]'h).toNat = 0)) (fun iv => s.size - (intOf iv).toNat)
  case atStart => exact ⟨0, Nat.zero_le _, rfl, Lib.hid (fun j _ h => by omega)⟩
  case round =>
    obtain ⟨i, hi, rfl, HA⟩ := hrel
    by_cases hlt : i < s.size
    · by_cases hb : (s[i]'hlt).toNat = 0
      · have d1 : (((s[i]'hlt).toNat : Int) != 0) = false := by rw [bne_eq_false_iff_eq]; omega
        have HA2 := Lib.hid (show ∀ j (h : j < s.size), j < i + 1 → (s[j]'h).toNat = 0 from fun j h hj => by
          by_cases e : j = i
          · subst e; exact hb
          · exact HA.out j h (by omega))
        clear HZ HA
        go_wp2_with fail
        go_round
        case rel => exact ⟨i + 1, by omega, by go_num, HA2⟩
        case measure => simp [intOf]; omega
      · have d1 : (((s[i]'hlt).toNat : Int) != 0) = true := by rw [bne_iff_ne]; omega
        have HF := Lib.hid (show decide (by_ s = Vs.z 2048) = false from decide_eq_false (fun e => hb ((HZ.out.1 e).2 i hlt)))
        clear HZ HA hb
        go_wp2_with fail
        go_ret
        exact ⟨by rw [HF.out]; rfl, rfl⟩
    · obtain rfl : i = s.size := by omega
      have HF := Lib.hid (show decide (by_ s = Vs.z 2048) = ((s.size : Int) == 2048) by
        rw [Bool.eq_iff_iff, decide_eq_true_iff, beq_iff_eq, HZ.out]
        exact ⟨fun h => by omega, fun h => ⟨by omega, fun j hj => HA.out j hj hj⟩⟩)
      clear HZ HA
      go_wp2_with fail
      go_ret
      exact ⟨by rw [HF.out]; rfl, rfl⟩

set_option maxHeartbeats 6400000 in
set_option maxRecDepth 100000 in
/-- masterdiscref33.decode of sixteen bytes. -/
theorem r33Decode16_any (s : ByteArray) (hs : s.size = 16) (w : World) :
    Calls Tryz.prog 147 #[.string s, .int .i64 16, .int .i64 0] w fun e w' => ∃ v, e = .returned (.tuple #[v, .int .i64 0]) ∧ Vs.OwnX w' w.heap.size v (Vs.dlX (by_ s)) ∧ Below w.heap.size w w' := by
  have C1 := Lib.hid (fun W => r31N_any s 0 4 0 4 rfl rfl (by omega) (by omega) (by omega) W)
  have C2 := Lib.hid (fun W => r31N_any s 4 4 4 4 rfl rfl (by omega) (by omega) (by omega) W)
  have C3 := Lib.hid (fun W => r31N_any s 8 2 8 2 rfl rfl (by omega) (by omega) (by omega) W)
  have HD := Lib.hid (show Vs.dlX (by_ s) = if Pm.at_ (by_ s) 0 4 % 1073741824 = 0 then [] else [⟨(Pm.at_ (by_ s) 0 4 / 1073741824 : Nat), (Pm.at_ (by_ s) 0 4 % 1073741824 : Nat), (Pm.at_ (by_ s) 4 4 : Nat), (Pm.at_ (by_ s) 8 2 : Nat)⟩] from rfl)
  have hz : (s.size : Int) = 16 := by omega
  have hb0 := Pm.at_lt (by_ s) 0 4
  have HON := Lib.hid (Vs.ownX_new w)
  have HB0 := Lib.hid ((Below.refl w.heap.size w).alloc (Nat.le_refl _) (.cells #[] 44))
  generalize Vs.dlX (by_ s) = R at *
  generalize Pm.at_ (by_ s) 0 4 = n at *
  generalize Pm.at_ (by_ s) 4 4 = b at *
  generalize Pm.at_ (by_ s) 8 2 = p at *
  have hn : (n : Int) < 4294967296 := by omega
  clear hs hb0
  go_enter Tryz.func147, Tryz.ntmps147
  go_wp2_with fail
  generalize w.alloc (.cells #[] 44) = w1 at *
  go_loopw [8, 9, 10, 11] (fun ov iv _ _ wr => (iv = .int .i64 ((0 : Nat) : Int) ∧ Hid (Vs.OwnX wr w.heap.size ov [] ∧ Below w.heap.size w wr)) ∨ (iv = .int .i64 ((16 : Nat) : Int) ∧ Hid (Vs.OwnX wr w.heap.size ov R ∧ Below w.heap.size w wr))) (fun _ iv _ _ _ => 16 - (intOf iv).toNat)
  case atStart => exact .inl ⟨rfl, Lib.hid ⟨HON.out, HB0.out⟩⟩
  case round =>
    clear HON HB0
    rcases hrel with ⟨rfl, HO⟩ | ⟨rfl, HO⟩
    · obtain ⟨A, cp, rfl⟩ := own_shape HO.out.1
      simp only [List.length_nil] at *
      go_wp2_with fail
      with_reducible refine (C1.out _).mono ?_
      rintro e w2 ⟨rfl, hw⟩
      subst hw
      by_cases h0 : n % 1073741824 = 0
      · have HR := Lib.hid (HD.out.trans (if_pos h0))
        have z0 : ((n : Int) % 1073741824 == 0) = true := by rw [beq_iff_eq]; omega
        clear h0 HD
        go_wp2_with fail
        go_ret2
        exact ⟨_, rfl, by rw [HR.out]; exact HO.out.1, HO.out.2⟩
      · have HR := Lib.hid (HD.out.trans (if_neg h0))
        have z0 : ((n : Int) % 1073741824 == 0) = false := by rw [beq_eq_false_iff_ne]; omega
        clear HD
        have HM := Lib.hid (show ((n : Int) / 1073741824 = ((n / 1073741824 : Nat) : Int)) ∧ ((n : Int) % 1073741824 = ((n % 1073741824 : Nat) : Int)) from ⟨by omega, by omega⟩)
        go_upto_region 12 with (with_reducible refine (C2.out _).mono ?_; rintro e w2 ⟨rfl, hw⟩; subst hw)
        have HO2 := Lib.hid (show Vs.OwnX (wr.alloc (.cells #[.int .i64 ((n : Int) / 1073741824), .int .i64 ((n : Int) % 1073741824), .int .i64 b, .int .i64 0] 44)) w.heap.size (.slice A 0 cp) [] from HO.out.1.alloc _)
        have HB2 := Lib.hid (HO.out.2.alloc HO.out.2.size (.cells #[.int .i64 ((n : Int) / 1073741824), .int .i64 ((n : Int) % 1073741824), .int .i64 b, .int .i64 0] 44))
        have HR2 := Lib.hid (heap_alloc_new wr (.cells #[.int .i64 ((n : Int) / 1073741824), .int .i64 ((n : Int) % 1073741824), .int .i64 b, .int .i64 0] 44))
        have HGO := Lib.hid (show (Value.slice A 0 cp).ownBlock ≠ some wr.heap.size from fun e => by
          have := (HO.out.1.lt _ e).2
          omega)
        have hsz := HO.out.2.size
        have HSZ := Lib.hid hsz
        generalize wr.alloc (.cells #[.int .i64 ((n : Int) / 1073741824), .int .i64 ((n : Int) % 1073741824), .int .i64 b, .int .i64 0] 44) = w2 at *
        generalize wr.heap.size = g at *
        clear HO C1 C2 z0
        have c3 := cell_of_row _ _ 3 _ _ _ HR2.out
        have hfj := fun j => frozen_of_row _ _ j _ _ HR2.out
        simp only [List.getElem?_toArray, List.getElem?_cons_zero, List.getElem?_cons_succ] at c3
        go_upto_region 14 with (with_reducible refine (C3.out _).mono ?_; rintro e wx ⟨rfl, hw⟩; subst hw)
        have gs : w2.grownBy (w2.setCell ⟨g, 3, none⟩ (.int .i64 p)) (some g) := ⟨rfl, rfl, rfl, by simp [World.setCell], fun k _ hk => Below.heap_setCell _ _ _ _ (fun e => hk (by simp [e]))⟩
        have HO3 := Lib.hid (show Vs.OwnX (w2.setCell ⟨g, 3, none⟩ (.int .i64 p)) w.heap.size (.slice A 0 cp) [] from World.ownsRow.kept HO2.out gs (.inr HGO.out))
        have HB3 := Lib.hid (HB2.out.setCell (p := ⟨g, 3, none⟩) hsz (.int .i64 p))
        have HR3 := Lib.hid (heap_setCell_same _ _ 3 _ _ (.int .i64 p) HR2.out)
        simp only [List.setIfInBounds_toArray, List.set_cons_zero, List.set_cons_succ] at HR3
        generalize w2.setCell ⟨g, 3, none⟩ (.int .i64 p) = w3 at *
        clear gs HO2 HB2 HR2 c3 hfj hsz
        have c0 := cell_of_row _ _ 0 _ _ _ HR3.out
        have c1 := cell_of_row _ _ 1 _ _ _ HR3.out
        have c2 := cell_of_row _ _ 2 _ _ _ HR3.out
        have c3 := cell_of_row _ _ 3 _ _ _ HR3.out
        simp only [List.getElem?_toArray, List.getElem?_cons_zero, List.getElem?_cons_succ] at c0 c1 c2 c3
        have HZ3 := Lib.hid HB3.out.size
        go_wp2_with (at_builtin; refine pushX rfl _ _ rfl w.heap.size _ [] rfl HO3.out ⟨(n : Int) / 1073741824, (n : Int) % 1073741824, (b : Int), (p : Int)⟩ 1 _ rfl rfl (by decide) HZ3.out ?_)
        intro v' w' ho' hb'
        obtain ⟨A', c, rfl⟩ := own_shape ho'
        have HO4 := Lib.hid (show Vs.OwnX w' w.heap.size _ R from by rw [HR.out, ← HM.out.1, ← HM.out.2]; exact ho')
        have HB4 := Lib.hid (HB3.out.trans hb')
        clear ho' hb' HR c0 c1 c2 c3
        go_wp2_with fail
        go_roundw
        case rel => exact .inr ⟨by go_num, HO4.out, HB4.out⟩
        case measure => simp [intOf]
    · obtain ⟨A, c, rfl⟩ := own_shape HO.out.1
      go_wp2_with fail
      go_ret2
      exact ⟨_, rfl, HO.out.1, HO.out.2⟩

set_option maxHeartbeats 1600000 in
set_option maxRecDepth 100000 in
/-- masterdiscref33.DecodeLong of sixteen bytes. -/
theorem r33DecodeLong_any (s : ByteArray) (hs : s.size = 16) (w : World) :
    Calls Tryz.prog 92 #[.string s] w fun e w' => ∃ v, e = .returned (.tuple #[v, .int .i64 0]) ∧ Vs.OwnX w' w.heap.size v (Vs.dlX (by_ s)) ∧ Below w.heap.size w w' := by
  have CD := Lib.hid (fun W => r33Decode16_any s hs W)
  clear hs
  go_enter Tryz.func92, Tryz.ntmps92
  go_wp2_with fail
  with_reducible refine (CD.out _).mono ?_
  rintro e w2 ⟨v, rfl, ho, hb⟩
  obtain ⟨A, c, rfl⟩ := own_shape ho
  have HO := Lib.hid ho
  have HB := Lib.hid hb
  clear ho hb
  go_wp2_with fail
  go_ret2
  exact ⟨_, rfl, HO.out, HB.out⟩
end Go.Proofs.YthkppbimkjmbnaaGreatDoor

/-
  The walks through the reference's Count, and ParseSequence of a location that is no word, of too many blocks; the rows of its loop.
-/
namespace Go.Proofs.YthkppbimkjmbnaaGreatDoor
set_option linter.unusedVariables false
open Go.RowKit
open Vs (bs by_)

set_option maxHeartbeats 1600000 in
set_option maxRecDepth 100000 in
/-- masterdiscref33.Count. -/
theorem r33Count_any (n : Nat) (h1 : n ≤ 9223372036854770000) (w : World) :
    Calls Tryz.prog 91 #[.int .i64 (n : Int)] w fun e w' => e = .returned (.int .i64 ((n + 2047) / 2048 : Nat)) ∧ w = w' := by
  go_enter Tryz.func91, Tryz.ntmps91
  go_wp2_with fail
  go_ret
  refine ⟨congrArg (fun z => Ending.returned (.int .i64 z)) ?_, rfl⟩
  go_num
namespace Vs
structure Pq (w W : World) (gi gb : Nat) (Z : Array Value) (a b c : Int) : Prop where
  box : PsB w W Z
  li : w.heap.size + 2 ≤ gi
  lb : gi < gb
  ids : W.heap[gi]? = some (.cells #[.int .i64 1, .int .i64 5, .int .i64 6] 3 (0, 0))
  best : W.heap[gb]? = some (.cells #[.int .i64 a, .int .i64 b, .int .i64 c] 3 (0, 0))
section
variable {w W : World} {gi gb : Nat} {Z : Array Value} {a b c : Int}
theorem Pq.start {W1 : World} (h : PsB w W1 Z) : Pq w ((W1.alloc (.cells #[.int .i64 1, .int .i64 5, .int .i64 6] 3)).alloc (.cells #[.int .i64 (-1), .int .i64 (-1), .int .i64 (-1)] 3)) W1.heap.size (W1.heap.size + 1) Z (-1) (-1) (-1) := by
  refine ⟨(h.below ((Below.refl _ _).alloc (Nat.le_refl _) (.cells #[.int .i64 1, .int .i64 5, .int .i64 6] 3))).below ((Below.refl _ _).alloc (Nat.le_refl _) _), h.size, Nat.lt_succ_self _, heap_alloc2_old W1 _ _, heap_alloc2_new W1 _ _⟩
theorem Pq.below {W' : World} (h : Pq w W gi gb Z a b c) (hb : Below W.heap.size W W') : Pq w W' gi gb Z a b c :=
  ⟨h.box.below hb, h.li, h.lb, (hb.block gi (Array.getElem?_eq_some_iff.1 h.ids).1).trans h.ids, (hb.block gb (Array.getElem?_eq_some_iff.1 h.best).1).trans h.best⟩
theorem Pq.set (h : Pq w W gi gb Z a b c) (k : Nat) (v : Value) : PsB w (W.setCell ⟨gb, k, none⟩ v) Z ∧ (W.setCell ⟨gb, k, none⟩ v).heap[gi]? = some (.cells #[.int .i64 1, .int .i64 5, .int .i64 6] 3 (0, 0)) := by
  have hl := h.lb
  have hi := h.li
  have gs : W.grownBy (W.setCell ⟨gb, k, none⟩ v) (some gb) := ⟨rfl, rfl, rfl, by simp [World.setCell], fun k _ hk => Below.heap_setCell _ _ _ _ (fun e => hk (by simp [e]))⟩
  exact ⟨h.box.grown gs (fun k e => by cases e; omega), (heap_setCell_other _ _ _ _ (by simp; omega)).trans h.ids⟩
theorem Pq.put0 (h : Pq w W gi gb Z a b c) (j : Int) : Pq w (W.setCell ⟨gb, 0, none⟩ (.int .i64 j)) gi gb Z j b c :=
  ⟨(h.set 0 _).1, h.li, h.lb, (h.set 0 _).2, heap_setCell_same _ _ 0 _ _ _ h.best⟩
theorem Pq.put1 (h : Pq w W gi gb Z a b c) (j : Int) : Pq w (W.setCell ⟨gb, 1, none⟩ (.int .i64 j)) gi gb Z a j c :=
  ⟨(h.set 1 _).1, h.li, h.lb, (h.set 1 _).2, heap_setCell_same _ _ 1 _ _ _ h.best⟩
theorem Pq.put2 (h : Pq w W gi gb Z a b c) (j : Int) : Pq w (W.setCell ⟨gb, 2, none⟩ (.int .i64 j)) gi gb Z a b j :=
  ⟨(h.set 2 _).1, h.li, h.lb, (h.set 2 _).2, heap_setCell_same _ _ 2 _ _ _ h.best⟩
theorem Pq.cells (h : Pq w W gi gb Z a b c) : (W.cell? ⟨gi, 0, none⟩ = some (.int .i64 1) ∧ W.cell? ⟨gi, 1, none⟩ = some (.int .i64 5) ∧ W.cell? ⟨gi, 2, none⟩ = some (.int .i64 6)) ∧ W.cell? ⟨gb, 0, none⟩ = some (.int .i64 a) ∧ W.cell? ⟨gb, 1, none⟩ = some (.int .i64 b) ∧ W.cell? ⟨gb, 2, none⟩ = some (.int .i64 c) :=
  ⟨⟨cell_of_row _ _ 0 _ _ _ h.ids, cell_of_row _ _ 1 _ _ _ h.ids, cell_of_row _ _ 2 _ _ _ h.ids⟩, cell_of_row _ _ 0 _ _ _ h.best, cell_of_row _ _ 1 _ _ _ h.best, cell_of_row _ _ 2 _ _ _ h.best⟩
end
/-- The indices after k rounds. -/
def stp (l : List ByteArray) (j : Nat) (a b c : Int) (k : Nat) : Int × Int × Int := (if 0 < k then nxt l j 1 a else a, if 1 < k then nxt l j 5 b else b, if 2 < k then nxt l j 6 c else c)
end Vs

set_option maxHeartbeats 3200000 in
set_option maxRecDepth 100000 in
/-- masterdiscref36.ParseSequence: the location is no word. -/
theorem rpseq_range (v : Value) (l : List ByteArray) (loc : Int) (w : World) (hw : Vs.word loc = false) :
    Calls Tryz.prog 27 #[v, .int .i64 loc] w fun e w' => e = .returned (.tuple #[.agg (Vs.dC (Vs.parR l loc).1.1), .int .i64 (Vs.parR l loc).1.2, .int .i64 (Vs.parR l loc).2]) ∧ Below w.heap.size w w' := by
  have HR := Lib.hid (show Vs.parR l loc = ((Vs.d0, 0), 2) from if_pos hw)
  rw [HR.out]
  simp only []
  have CW := Lib.hid (fun W => r36Word_any loc W)
  rw [hw] at CW
  obtain ⟨Z, hZ⟩ : ∃ Z, Z = Vs.zC := ⟨_, rfl⟩
  have hZd : Vs.dC Vs.d0 = Z := hZ.symm
  rw [hZd]
  have HS := Lib.hid (Vs.PsB.start w Z)
  have HZ := Lib.hid (show Z = Vs.dC Vs.d0 from hZ)
  have HZ1 := Lib.hid (show Z.all (·.oneCell') = true by rw [hZ]; exact Vs.zC_one)
  have HZI := Lib.hid (show (Tryz.prog.info? 46).map (·.size) = some Z.size by rw [hZ]; exact Vs.zC_info)
  have HZL := Lib.hid (show (#[.string ⟨#[]⟩, .string ⟨#[]⟩, .string ⟨#[]⟩, .string ⟨#[]⟩, .string ⟨#[]⟩, .int .i64 0, .int .i64 0, .int .i64 0, .int .i64 0, .int .i64 0, .int .i64 0, .int .i64 0, .int .i64 0, .int .i64 0, .int .i64 0, .string ⟨#[]⟩, .int .i64 0, .int .i64 0, .int .i64 0, .int .i64 0, .int .i64 0, .int .i64 0] : Array Value) = Z from hZ.symm)
  have hz22 : Z.size = 22 := by rw [hZ]; rfl
  clear hZ hZd
  clear hw HR
  go_enter Tryz.func27, Tryz.ntmps27
  go_upto_region 1 with fail
  go_upto_region 2 with (refine wpList_store_mid rfl 46 _ _ rfl (w.heap.size + 1) 0 Vs.zC (by rfl) (by rfl) (Vs.row_there (heap_alloc2_new w _ _) rfl) Vs.zC_info Vs.zC_one ?_)
  unfold Vs.zC
  rw [HZL.out]
  generalize (((w.alloc (.cells Z 46)).alloc (.cells Z 46)).setCells (w.heap.size + 1) 0 Z.toList) = W1 at *
  go_wp2_with fail
  with_reducible refine (CW.out _).mono ?_
  rintro e wx ⟨rfl, hx⟩
  subst hx
  have HLD := Lib.hid (Vs.box_load Vs.d0 HZ.out HS.out.hn)
  have hst := Vs.run_put (P := Tryz.prog) HS.out.hr Z rfl HZ1.out
  go_wp2_with (refine wpList_load_at 46 _ rfl (w.heap.size + 1) 0 rfl _ HLD.out (by rfl) ?_)
  exact bodyPost_ret (v := .tuple #[.agg Z, .int .i64 0, .int .i64 2]) (res_ctt rfl _ _ w.heap.size 46 Z (0, 0) _ rfl (HS.out.out rfl).1 Tryz.underlying46 rfl HZI.out _ _ rfl rfl) rfl ⟨rfl, (HS.out.out rfl).2⟩
set_option maxHeartbeats 3200000 in
set_option maxRecDepth 100000 in
/-- masterdiscref36.ParseSequence: too many blocks. -/
theorem rpseq_many (v : Value) (l : List ByteArray) (loc : Int) (w : World) (hv : Kit.Row w v (Vs.strs l)) (hw : Vs.word loc = true) (hl : 1024 < l.length) :
    Calls Tryz.prog 27 #[v, .int .i64 loc] w fun e w' => e = .returned (.tuple #[.agg (Vs.dC (Vs.parR l loc).1.1), .int .i64 (Vs.parR l loc).1.2, .int .i64 (Vs.parR l loc).2]) ∧ Below w.heap.size w w' := by
  have HR := Lib.hid (show Vs.parR l loc = ((Vs.d0, 0), 7) from (if_neg (by rw [hw]; decide)).trans (if_pos hl))
  rw [HR.out]
  simp only []
  have CW := Lib.hid (fun W => r36Word_any loc W)
  rw [hw] at CW
  obtain ⟨Z, hZ⟩ : ∃ Z, Z = Vs.zC := ⟨_, rfl⟩
  have hZd : Vs.dC Vs.d0 = Z := hZ.symm
  rw [hZd]
  have HS := Lib.hid (Vs.PsB.start w Z)
  have HZ := Lib.hid (show Z = Vs.dC Vs.d0 from hZ)
  have HZ1 := Lib.hid (show Z.all (·.oneCell') = true by rw [hZ]; exact Vs.zC_one)
  have HZI := Lib.hid (show (Tryz.prog.info? 46).map (·.size) = some Z.size by rw [hZ]; exact Vs.zC_info)
  have HZL := Lib.hid (show (#[.string ⟨#[]⟩, .string ⟨#[]⟩, .string ⟨#[]⟩, .string ⟨#[]⟩, .string ⟨#[]⟩, .int .i64 0, .int .i64 0, .int .i64 0, .int .i64 0, .int .i64 0, .int .i64 0, .int .i64 0, .int .i64 0, .int .i64 0, .int .i64 0, .string ⟨#[]⟩, .int .i64 0, .int .i64 0, .int .i64 0, .int .i64 0, .int .i64 0, .int .i64 0] : Array Value) = Z from hZ.symm)
  have hz22 : Z.size = 22 := by rw [hZ]; rfl
  clear hZ hZd
  obtain ⟨A, c, rfl, hlc, hcm, -⟩ := hv
  rw [Vs.strs_len] at *
  have d1 : decide ((1024 : Int) < (l.length : Int)) = true := decide_eq_true (by omega)
  clear hw HR hlc hcm hl
  go_enter Tryz.func27, Tryz.ntmps27
  go_upto_region 1 with fail
  go_upto_region 2 with (refine wpList_store_mid rfl 46 _ _ rfl (w.heap.size + 1) 0 Vs.zC (by rfl) (by rfl) (Vs.row_there (heap_alloc2_new w _ _) rfl) Vs.zC_info Vs.zC_one ?_)
  unfold Vs.zC
  rw [HZL.out]
  generalize (((w.alloc (.cells Z 46)).alloc (.cells Z 46)).setCells (w.heap.size + 1) 0 Z.toList) = W1 at *
  go_wp2_with fail
  with_reducible refine (CW.out _).mono ?_
  rintro e wx ⟨rfl, hx⟩
  subst hx
  have HLD := Lib.hid (Vs.box_load Vs.d0 HZ.out HS.out.hn)
  have hst := Vs.run_put (P := Tryz.prog) HS.out.hr Z rfl HZ1.out
  go_wp2_with (refine wpList_load_at 46 _ rfl (w.heap.size + 1) 0 rfl _ HLD.out (by rfl) ?_)
  exact bodyPost_ret (v := .tuple #[.agg Z, .int .i64 0, .int .i64 7]) (res_ctt rfl _ _ w.heap.size 46 Z (0, 0) _ rfl (HS.out.out rfl).1 Tryz.underlying46 rfl HZI.out _ _ rfl rfl) rfl ⟨rfl, (HS.out.out rfl).2⟩
end Go.Proofs.YthkppbimkjmbnaaGreatDoor

/-
  The walks through the reference's Formed, short, EncodeLong of one extent, long.
-/
namespace Go.Proofs.YthkppbimkjmbnaaGreatDoor
open Go.RowKit
open Vs (bs by_)

set_option maxHeartbeats 6400000 in
set_option maxRecDepth 100000 in
/-- masterdiscref33.Formed. -/
theorem rFormed_any (v : Value) (l : List Pm.X) (w : World) (hm : Pm.ExtsAt w v l) :
    Calls Tryz.prog 136 #[v] w fun e w' => e = .returned (.bool (Pm.formed l)) ∧ Below w.heap.size w w' := by
  have HM := Lib.hid hm
  obtain ⟨A, c, rfl, hlc, hcm, hcells⟩ := hm.row
  have HCE := Lib.hid hcells
  clear hcells hm
  unfold maxLen at hcm
  go_enter Tryz.func136, Tryz.ntmps136
  go_wp2_with fail
  go_loopw [3] (fun iv wr => ∃ j : Nat, j ≤ l.length ∧ iv = .int .i64 j ∧ (l.take j).all Pm.formed1 = true ∧ Below w.heap.size w wr) (fun iv _ => l.length - (intOf iv).toNat)
  case atStart => exact ⟨0, by omega, rfl, rfl, Below.refl _ _⟩
  case round =>
    obtain ⟨j, hj, rfl, hall, hbw⟩ := hrel
    by_cases hlt : j < l.length
    · obtain ⟨bl, o, rfl, hbl, hc⟩ := HCE.out (by omega)
      obtain ⟨c0, c1, c2, c3⟩ := Pm.four hbl hbw (hc j hlt)
      have hiff := Pm.formed1_iff (l.getD j Pm.x0)
      have HYES := Lib.hid (fun h => all_snocX hlt hall h)
      have HNO := Lib.hid (fun h => all_failX (p := Pm.formed1) hlt h)
      have HBW := Lib.hid hbw
      have HBS := Lib.hid hbw.size
      clear hc hall hbw
      generalize hq : l.getD j Pm.x0 = x at *
      clear hq
      generalize hV : Pm.formed1 x = V at *
      obtain ⟨k, n, b, p⟩ := x
      simp only [] at *
      clear hV
      have hcs : (0 ≤ k ∧ k ≤ 3 ∧ 1 ≤ n ∧ n < 1073741824 ∧ 0 ≤ b ∧ b < 4294967296 ∧ 0 ≤ p ∧ p ≤ 65535) ∨ (k < 0) ∨ (0 ≤ k ∧ 3 < k) ∨ (0 ≤ k ∧ k ≤ 3 ∧ n < 1) ∨ (0 ≤ k ∧ k ≤ 3 ∧ 1 ≤ n ∧ 1073741824 ≤ n) ∨
          (0 ≤ k ∧ k ≤ 3 ∧ 1 ≤ n ∧ n < 1073741824 ∧ b < 0) ∨ (0 ≤ k ∧ k ≤ 3 ∧ 1 ≤ n ∧ n < 1073741824 ∧ 0 ≤ b ∧ 4294967296 ≤ b) ∨ (0 ≤ k ∧ k ≤ 3 ∧ 1 ≤ n ∧ n < 1073741824 ∧ 0 ≤ b ∧ b < 4294967296 ∧ p < 0) ∨
          (0 ≤ k ∧ k ≤ 3 ∧ 1 ≤ n ∧ n < 1073741824 ∧ 0 ≤ b ∧ b < 4294967296 ∧ 0 ≤ p ∧ 65535 < p) := by omega
      rcases hcs with h | h | h | h | h | h | h | h | h
      · have HV := Lib.hid (HYES.out (hiff.2 h))
        clear hiff HYES HNO
        obtain ⟨h1, h2, h3, h4, h5, h6, h7, h8⟩ := h
        have d1 : decide (k < 0) = false := decide_eq_false (by omega)
        have d2 : decide (3 < k) = false := decide_eq_false (by omega)
        have d3 : decide (n < 1) = false := decide_eq_false (by omega)
        have d4 : decide (1073741824 ≤ n) = false := decide_eq_false (by omega)
        have d5 : decide (b < 0) = false := decide_eq_false (by omega)
        have d6 : decide (4294967296 ≤ b) = false := decide_eq_false (by omega)
        have d7 : decide (p < 0) = false := decide_eq_false (by omega)
        have d8 : decide (65535 < p) = false := decide_eq_false (by omega)
        clear h1 h2 h3 h4 h5 h6 h7 h8
        go_wp2_with fail
        go_roundw
        case rel => exact ⟨j + 1, by omega, by go_num, HV.out, HBW.out.alloc HBS.out _⟩
        case measure => simp [intOf]; omega
      all_goals
        have HV := Lib.hid (show Pm.formed l = false by
          unfold Pm.formed
          rw [HNO.out (by rw [Bool.eq_false_iff]; intro hv; have := hiff.1 hv; omega)]
          simp)
        clear hiff HYES HNO
        try have d1 : decide (k < 0) = false := decide_eq_false (by omega)
        try have d1' : decide (k < 0) = true := decide_eq_true (by omega)
        try have d2 : decide (3 < k) = false := decide_eq_false (by omega)
        try have d2' : decide (3 < k) = true := decide_eq_true (by omega)
        try have d3 : decide (n < 1) = false := decide_eq_false (by omega)
        try have d3' : decide (n < 1) = true := decide_eq_true (by omega)
        try have d4 : decide (1073741824 ≤ n) = false := decide_eq_false (by omega)
        try have d4' : decide (1073741824 ≤ n) = true := decide_eq_true (by omega)
        try have d5 : decide (b < 0) = false := decide_eq_false (by omega)
        try have d5' : decide (b < 0) = true := decide_eq_true (by omega)
        try have d6 : decide (4294967296 ≤ b) = false := decide_eq_false (by omega)
        try have d6' : decide (4294967296 ≤ b) = true := decide_eq_true (by omega)
        try have d7 : decide (p < 0) = false := decide_eq_false (by omega)
        try have d7' : decide (p < 0) = true := decide_eq_true (by omega)
        try have d8 : decide (65535 < p) = true := decide_eq_true (by omega)
        clear h
        go_wp2_with fail
        go_ret
        rw [HV.out]
        exact ⟨rfl, HBW.out.alloc HBS.out _⟩
    · obtain rfl : j = l.length := by omega
      rw [List.take_length] at hall
      have HR := Lib.hid (show Pm.formed l = decide (l.length ≤ 64) by unfold Pm.formed; rw [hall]; simp)
      clear hall
      by_cases h64 : l.length ≤ 64
      · have d : decide ((l.length : Int) ≤ 64) = true := decide_eq_true (by omega)
        rw [decide_eq_true h64] at HR
        go_wp2_with fail
        go_ret
        rw [HR.out]
        exact ⟨rfl, hbw⟩
      · have d : decide ((l.length : Int) ≤ 64) = false := decide_eq_false (by omega)
        rw [decide_eq_false h64] at HR
        go_wp2_with fail
        go_ret
        rw [HR.out]
        exact ⟨rfl, hbw⟩

end Go.Proofs.YthkppbimkjmbnaaGreatDoor

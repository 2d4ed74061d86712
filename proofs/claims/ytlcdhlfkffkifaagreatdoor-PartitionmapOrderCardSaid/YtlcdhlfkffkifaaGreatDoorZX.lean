/-
  The walk through allocation.little.
-/
import Derived.Test.YtlcdhlfkffkifaaGreatDoorZC
import Derived.Test.YtlcdhlfkffkifaaGreatDoorZS
import Derived.Test.YtlcdhlfkffkifaaGreatDoorZA
import Derived.Test.YtlcdhlfkffkifaaGreatDoorZK
import Derived.Test.YtlcdhlfkffkifaaGreatDoorZI
import Derived.Laws.OwnMore
import Derived.Test.YtlcdhlfkffkifaaGreatDoorZV
namespace Go.Proofs.YtlcdhlfkffkifaaGreatDoor
open Go.RowKit

set_option maxHeartbeats 1600000 in
set_option maxRecDepth 100000 in
/-- allocation.little. -/
theorem aLittle_any (n : Int) (k : Nat) (hk : Pm.Sz k) (w : World) : Calls Tryz.prog 71 #[.int .i64 n, .int .i64 (k : Int)] w fun e w' => e = .returned (.string ⟨(Pm.leR n k).toArray⟩) ∧ Below w.heap.size w w' := by
  have CL := Lib.hid (fun W => little_any n k hk W)
  generalize Pm.leR n k = r at *
  generalize (if Pm.fitsB n k = true then (0 : Int) else 2) = er at *
  go_enter Tryz.func71, Tryz.ntmps71
  go_wp2_with fail
  with_reducible refine (CL.out _).mono ?_
  rintro e w2 ⟨rfl, hb2⟩
  go_wp2_with fail
  go_ret
  exact ⟨rfl, hb2⟩
end Go.Proofs.YtlcdhlfkffkifaaGreatDoor

/-
  The walks through allocation.EncodeLong of one extent.
-/
namespace Go.Proofs.YtlcdhlfkffkifaaGreatDoor
open Go.RowKit
theorem aLittle_k (n : Int) (k : Nat) (K : Int) (hK : K = (k : Int)) (hk : Pm.Sz k) (w : World) : Calls Tryz.prog 71 #[.int .i64 n, .int .i64 K] w fun e w' => e = .returned (.string ⟨(Pm.leR n k).toArray⟩) ∧ Below w.heap.size w w' := by
  subst hK
  exact aLittle_any n k hk w

set_option maxHeartbeats 1600000 in
set_option maxRecDepth 100000 in
/-- allocation.EncodeLong$1. -/
theorem restLong_any (x : Pm.X) (w : World) :
    Calls Tryz.prog 70 #[Pm.exV x] w fun e w' => e = .returned (.string (⟨(Pm.leR x.part 2).toArray⟩ ++ ⟨(Pm.leR 0 6).toArray⟩)) ∧ Below w.heap.size w w' := by
  have C1 := Lib.hid (fun W => aLittle_k x.part 2 2 rfl (by unfold Pm.Sz; omega) W)
  have C2 := Lib.hid (fun W => aLittle_k 0 6 6 rfl (by unfold Pm.Sz; omega) W)
  unfold Pm.exV
  obtain ⟨k, n, b, p⟩ := x
  simp only [] at *
  have h1 : (Pm.leR p 2).length ≤ 2 := Pm.leR_len _ _
  have h2 : (Pm.leR 0 6).length ≤ 6 := Pm.leR_len _ _
  generalize Pm.leR p 2 = l1 at *
  generalize Pm.leR 0 6 = l2 at *
  go_enter Tryz.func70, Tryz.ntmps70
  go_wp2_with fail
  with_reducible refine (C1.out _).mono ?_
  rintro e w2 ⟨rfl, hb2⟩
  have HB2 := Lib.hid (((Below.refl _ _).alloc (Nat.le_refl _) _).trans (hb2.mono (B' := w.heap.size) (by simp)))
  clear hb2
  go_wp2_with fail
  with_reducible refine (C2.out _).mono ?_
  rintro e w3 ⟨rfl, hb3⟩
  go_wp2_with fail
  go_ret
  exact ⟨rfl, HB2.out.trans (hb3.mono HB2.out.size)⟩

/-- A string comes back. -/
def StrP (w : World) (e : Ending) (w' : World) : Prop := ∃ s : ByteArray, e = .returned (.string s) ∧ Below w.heap.size w w'
set_option maxHeartbeats 3200000 in
set_option maxRecDepth 100000 in
/-- allocation.encode, of one extent. -/
theorem encodeOne_any (v : Value) (x : Pm.X) (w : World) (hm : Pm.ExtsAt w v [x]) (hx : Pm.formed1 x = true) :
    Calls Tryz.prog 69 #[v, .func (.func 70) #[] #[]] w (StrP w) := by
  have hx := (Pm.formed1_iff x).1 hx
  obtain ⟨A, c, rfl, hlc, hcm, hcells⟩ := hm.row
  obtain ⟨bl, o, rfl, hbl, hc⟩ := hcells (by simp)
  have hcc := hc 0 (by simp)
  have CR := Lib.hid (fun W => restLong_any x W)
  clear hc hcells hm
  have hcc := Lib.hid hcc
  unfold Pm.exV at CR
  obtain ⟨k, n, b, p⟩ := x
  simp only [List.getD_cons_zero] at *
  obtain ⟨x1, x2, x3, x4, x5, x6, x7, x8⟩ := hx
  have C1 := Lib.hid (fun W => aLittle_k (n + 1073741824 * k) 4 4 rfl (by unfold Pm.Sz; omega) W)
  have C2 := Lib.hid (fun W => aLittle_k b 4 4 rfl (by unfold Pm.Sz; omega) W)
  have z3 : (⟨(Pm.leR p 2).toArray⟩ ++ ⟨(Pm.leR 0 6).toArray⟩ : ByteArray).size ≤ 8 := by
    have h1 := Pm.leR_len p 2
    have h2 := Pm.leR_len 0 6
    rw [Kit.append_mk]
    show ((Pm.leR p 2 ++ Pm.leR 0 6).toArray).size ≤ 8
    rw [List.size_toArray, List.length_append]
    omega
  have z1 := Pm.leR_len (n + 1073741824 * k) 4
  have z2 := Pm.leR_len b 4
  generalize (⟨(Pm.leR p 2).toArray⟩ ++ ⟨(Pm.leR 0 6).toArray⟩ : ByteArray) = s3 at *
  generalize Pm.leR (n + 1073741824 * k) 4 = l1 at *
  generalize Pm.leR b 4 = l2 at *
  simp only [List.length_cons, List.length_nil, Nat.zero_add] at *
  go_enter Tryz.func69, Tryz.ntmps69
  go_wp2_with fail
  go_loopw [5, 7, 10] (fun sv _ iv wr => ∃ (j : Nat) (s : ByteArray), j ≤ 1 ∧ iv = .int .i64 j ∧ sv = .string s ∧ s.size ≤ 16 * j ∧ Below w.heap.size w wr) (fun _ _ iv _ => 1 - (intOf iv).toNat)
  case atStart => exact ⟨0, ⟨#[]⟩, by omega, rfl, rfl, Nat.le_refl _, Below.refl _ _⟩
  case round =>
    obtain ⟨j, s, hj, rfl, rfl, hs, hbw⟩ := hrel
    by_cases hlt : j < 1
    · obtain rfl : j = 0 := by omega
      obtain ⟨c0, c1, c2, c3⟩ := Pm.four (x := ⟨k, n, b, p⟩) (j := 0) hbl hbw hcc.out
      simp only [Nat.zero_mul, Nat.add_zero] at c0 c1 c2 c3
      have HBW := Lib.hid (hbw.alloc hbw.size (.cells #[.int .i64 k, .int .i64 n, .int .i64 b, .int .i64 p] 49))
      have hnew := fun (q : Nat) (u : Value) (h : (#[.int .i64 k, .int .i64 n, .int .i64 b, .int .i64 p] : Array Value)[q]? = some u) => (show (wr.alloc (.cells #[.int .i64 k, .int .i64 n, .int .i64 b, .int .i64 p] 49)).cell? ⟨wr.heap.size, q, none⟩ = some u by rw [World.cell?_alloc_at _ _ _ _ (by simp)]; simpa using h)
      have hlw : wr.heap.size < (wr.alloc (.cells #[.int .i64 k, .int .i64 n, .int .i64 b, .int .i64 p] 49)).heap.size := by simp
      have y0 := fun x : Later (wr.alloc (.cells #[.int .i64 k, .int .i64 n, .int .i64 b, .int .i64 p] 49)).heap.size (wr.alloc (.cells #[.int .i64 k, .int .i64 n, .int .i64 b, .int .i64 p] 49)) => later_cell x hlw (hnew 0 _ rfl)
      have y1 := fun x : Later (wr.alloc (.cells #[.int .i64 k, .int .i64 n, .int .i64 b, .int .i64 p] 49)).heap.size (wr.alloc (.cells #[.int .i64 k, .int .i64 n, .int .i64 b, .int .i64 p] 49)) => later_cell x hlw (hnew 1 _ rfl)
      have y2 := fun x : Later (wr.alloc (.cells #[.int .i64 k, .int .i64 n, .int .i64 b, .int .i64 p] 49)).heap.size (wr.alloc (.cells #[.int .i64 k, .int .i64 n, .int .i64 b, .int .i64 p] 49)) => later_cell x hlw (hnew 2 _ rfl)
      have y3 := fun x : Later (wr.alloc (.cells #[.int .i64 k, .int .i64 n, .int .i64 b, .int .i64 p] 49)).heap.size (wr.alloc (.cells #[.int .i64 k, .int .i64 n, .int .i64 b, .int .i64 p] 49)) => later_cell x hlw (hnew 3 _ rfl)
      have hw1 : IntKind.i64.wrap (1073741824 * k) = 1073741824 * k := IntWalk.i64_in _ (by omega)
      have hw2 : IntKind.i64.wrap (n + 1073741824 * k) = n + 1073741824 * k := IntWalk.i64_in _ (by omega)
      clear hnew hlw
      go_wp2_with fail
      refine wp_region_later (wr.alloc (.cells #[.int .i64 k, .int .i64 n, .int .i64 b, .int .i64 p] 49)).heap.size (by kernel_rfl) (by kernel_rfl) ?_
      repeat (any_goals (first | go_big_quiet_skip | (go_big_quiet_want; go_big_quiet_op; first | go_big_quiet_on | (apply Exists.intro; refine ⟨fun _ => ?_, ?_⟩; (first | (with_reducible refine Calls.later_of ?_ (C1.out _); simp) | (with_reducible refine Calls.later_of ?_ (C2.out _); simp) | (with_reducible refine Calls.later_of ?_ (CR.out _); simp)); go_big_quiet_on))))
      refine wpQuiet_nil ?_
      intro wq hw'
      obtain ⟨⟨wz, hbq⟩, hw''⟩ := hw'
      subst hw''
      clear y0 y1 y2 y3
      go_wp2_with fail
      go_roundw
      case rel =>
        refine ⟨1, _, by omega, by go_num, rfl, ?_, HBW.out.trans (hbq.mono HBW.out.size)⟩
        have e1 : (⟨l1.toArray⟩ : ByteArray).size = l1.length := List.size_toArray ..
        have e2 : (⟨l2.toArray⟩ : ByteArray).size = l2.length := List.size_toArray ..
        simp only [ByteArray.size_append, e1, e2]
        omega
      case measure => simp [intOf]
    · obtain rfl : j = 1 := by omega
      go_wp2_with fail
      go_ret
      exact ⟨s, rfl, hbw⟩

/-- A string and a code come back. -/
def StrE (c : Int) (w : World) (e : Ending) (w' : World) : Prop := ∃ s : ByteArray, e = .returned (.tuple #[.string s, .int .i64 c]) ∧ Below w.heap.size w w'
theorem StrE.mk' {c : Int} {w w' : World} {e : Ending} (s : ByteArray) (he : e = .returned (.tuple #[.string s, .int .i64 c])) (hb : Below w.heap.size w w') : StrE c w e w' := ⟨s, he, hb⟩
theorem StrP.mk' {w w' : World} {e : Ending} (s : ByteArray) (he : e = .returned (.string s)) (hb : Below w.heap.size w w') : StrP w e w' := ⟨s, he, hb⟩
set_option maxHeartbeats 1600000 in
set_option maxRecDepth 100000 in
/-- allocation.EncodeLong, of one extent. -/
theorem encodeLong_one (v : Value) (x : Pm.X) (w : World) (hm : Pm.ExtsAt w v [x]) :
    Calls Tryz.prog 46 #[v] w (StrE (if Pm.formed1 x = true then 0 else 1) w) := by
  have CF := Lib.hid (fun W h => formed_any v [x] W h)
  have hfx : Pm.formed [x] = Pm.formed1 x := by simp [Pm.formed]
  rw [hfx] at CF
  have HM := Lib.hid hm
  obtain ⟨A, c, rfl, _, _, _⟩ := hm.row
  cases hx : Pm.formed1 x with
  | true =>
    have CE := Lib.hid (fun W h => encodeOne_any (.slice A 1 c) x W h hx)
    rw [hx] at CF
    clear hm hfx hx
    go_enter Tryz.func46, Tryz.ntmps46
    go_wp2_with fail
    refine (CF.out _ HM.out).mono ?_
    rintro e w2 ⟨rfl, hb2⟩
    go_wp2_with fail
    refine (CE.out _ (HM.out.below hb2)).mono ?_
    rintro e w3 ⟨s, rfl, hb3⟩
    go_wp2_with fail
    go_ret2
    exact StrE.mk' s rfl (hb2.trans (hb3.mono hb2.size))
  | false =>
    rw [hx] at CF
    clear hm hfx hx
    go_enter Tryz.func46, Tryz.ntmps46
    go_wp2_with fail
    refine (CF.out _ HM.out).mono ?_
    rintro e w2 ⟨rfl, hb2⟩
    go_wp2_with fail
    go_ret2
    exact StrE.mk' ⟨#[]⟩ rfl hb2
end Go.Proofs.YtlcdhlfkffkifaaGreatDoor

/-
  Plain laws of spans: they hold the blocks in order, and no two of them can be joined.
-/
namespace Go.Proofs.YtlcdhlfkffkifaaGreatDoor
namespace Pm
/-- The number of blocks in front of span k. -/
def off (l : List (Int × Int)) (k : Nat) : Int := ((l.take k).map Prod.snd).sum
theorem off_app {l : List (Int × Int)} {k : Nat} (y : Int × Int) (h : k ≤ l.length) : off (l ++ [y]) k = off l k := by
  unfold off
  rw [List.take_append_of_le_length h]
theorem off_all (l : List (Int × Int)) (y : Int × Int) : off (l ++ [y]) (l ++ [y]).length = off l l.length + y.2 := by
  unfold off
  rw [List.take_length, List.take_length, List.map_append, List.sum_append]
  simp
theorem off_succ {l : List (Int × Int)} {k : Nat} (h : k < l.length) : off l (k + 1) = off l k + (l.getD k (0, 0)).2 := by
  unfold off
  rw [List.take_succ_eq_append_getElem h, List.map_append, List.sum_append]
  simp [List.getD, h]
/-- Spans l that hold n blocks, whose places are t. -/
structure Sp (t : Nat → Int) (l : List (Int × Int)) (n : Nat) : Prop where
  cnt : ∀ k, k < l.length → 1 ≤ (l.getD k (0, 0)).2
  gap : ∀ k, k + 1 < l.length → (l.getD k (0, 0)).1 + (l.getD k (0, 0)).2 ≠ (l.getD (k + 1) (0, 0)).1
  at' : ∀ k, k < l.length → ∀ d : Nat, (d : Int) < (l.getD k (0, 0)).2 → ∃ j : Nat, (j : Int) = off l k + d ∧ j < n ∧ t j = (l.getD k (0, 0)).1 + d
  sum : off l l.length = n
theorem Sp.nil (t : Nat → Int) : Sp t [] 0 := ⟨fun k hk => absurd hk (by simp), fun k hk => absurd hk (by simp), fun k hk => absurd hk (by simp), rfl⟩
theorem getD_app {l : List (Int × Int)} {k : Nat} (y : Int × Int) (h : k < l.length) : (l ++ [y]).getD k (0, 0) = l.getD k (0, 0) := by
  simp [List.getD, List.getElem?_append_left h]
theorem getD_last (l : List (Int × Int)) (y : Int × Int) : (l ++ [y]).getD l.length (0, 0) = y := by
  simp [List.getD]
theorem Sp.fresh {t : Nat → Int} {l : List (Int × Int)} {n : Nat} (h : Sp t l n) (hne : ∀ i s, l = i ++ [s] → s.1 + s.2 ≠ t n) : Sp t (l ++ [(t n, 1)]) (n + 1) := by
  refine ⟨fun k hk => ?_, fun k hk => ?_, fun k hk d hd => ?_, ?_⟩
  · simp only [List.length_append, List.length_cons, List.length_nil] at hk
    by_cases h1 : k < l.length
    · rw [getD_app _ h1]; exact h.cnt k h1
    · obtain rfl : k = l.length := by omega
      rw [getD_last]
      exact Int.le_refl _
  · simp only [List.length_append, List.length_cons, List.length_nil] at hk
    by_cases h1 : k + 1 < l.length
    · rw [getD_app _ h1, getD_app _ (by omega)]; exact h.gap k h1
    · have h2 : k + 1 = l.length := by omega
      rw [h2, getD_last, getD_app _ (by omega)]
      rcases List.eq_nil_or_concat l with rfl | ⟨i, s, rfl⟩
      · simp at h2
      · have hk' : k = i.length := by simpa using h2
        subst hk'
        rw [List.concat_eq_append] at *
        rw [getD_last]
        exact hne i s rfl
  · simp only [List.length_append, List.length_cons, List.length_nil] at hk
    by_cases h1 : k < l.length
    · rw [getD_app _ h1] at hd ⊢
      rw [off_app _ (by omega)]
      obtain ⟨j, hj, hjn, ht⟩ := h.at' k h1 d hd
      exact ⟨j, hj, by omega, ht⟩
    · obtain rfl : k = l.length := by omega
      rw [getD_last] at hd ⊢
      simp only at hd ⊢
      rw [off_app _ (Nat.le_refl _), h.sum]
      obtain rfl : d = 0 := by omega
      exact ⟨n, by omega, by omega, by omega⟩
  · rw [off_all, h.sum]
    simp
theorem Sp.more {t : Nat → Int} {i : List (Int × Int)} {s : Int × Int} {n : Nat} (h : Sp t (i ++ [s]) n) (hs : s.1 + s.2 = t n) : Sp t (i ++ [(s.1, s.2 + 1)]) (n + 1) := by
  have hl := h.cnt i.length (by simp)
  rw [getD_last] at hl
  have hsum := h.sum
  rw [off_all] at hsum
  refine ⟨fun k hk => ?_, fun k hk => ?_, fun k hk d hd => ?_, ?_⟩
  · simp only [List.length_append, List.length_cons, List.length_nil] at hk
    by_cases h1 : k < i.length
    · have := h.cnt k (by simp; omega)
      rw [getD_app _ h1] at this ⊢
      exact this
    · obtain rfl : k = i.length := by omega
      rw [getD_last]
      show 1 ≤ s.2 + 1
      omega
  · simp only [List.length_append, List.length_cons, List.length_nil] at hk
    have := h.gap k (by simp; omega)
    have h0 : k < i.length := by omega
    rw [getD_app _ h0] at this ⊢
    by_cases h1 : k + 1 < i.length
    · rw [getD_app _ h1] at this ⊢
      exact this
    · have h2 : k + 1 = i.length := by omega
      rw [h2, getD_last] at this ⊢
      exact this
  · simp only [List.length_append, List.length_cons, List.length_nil] at hk
    by_cases h1 : k < i.length
    · rw [getD_app _ h1] at hd ⊢
      obtain ⟨j, hj, hjn, ht⟩ := h.at' k (by simp; omega) d (by rw [getD_app _ h1]; exact hd)
      rw [off_app _ (by omega)] at hj ⊢
      rw [getD_app _ h1] at ht
      exact ⟨j, hj, by omega, ht⟩
    · obtain rfl : k = i.length := by omega
      rw [getD_last] at hd ⊢
      simp only at hd ⊢
      rw [off_app _ (Nat.le_refl _)]
      by_cases h2 : (d : Int) < s.2
      · obtain ⟨j, hj, hjn, ht⟩ := h.at' i.length (by simp) d (by rw [getD_last]; exact h2)
        rw [off_app _ (Nat.le_refl _)] at hj
        rw [getD_last] at ht
        exact ⟨j, hj, by omega, ht⟩
      · have h3 : (d : Int) = s.2 := by omega
        exact ⟨n, by omega, by omega, by rw [← hs, h3]⟩
  · rw [off_all]
    simp only
    omega
theorem Sp.push {t : Nat → Int} {l : List (Int × Int)} {n : Nat} (h : Sp t l n) : Sp t (Pm.push l (t n)) (n + 1) := by
  unfold Pm.push
  rcases List.eq_nil_or_concat l with rfl | ⟨i, s, rfl⟩
  · exact h.fresh (fun i s hs => by simp at hs)
  · rw [List.concat_eq_append] at *
    rw [List.getLast?_append]
    simp only [List.getLast?_singleton, Option.some_or]
    by_cases hs : s.1 + s.2 = t n
    · rw [if_pos hs, List.dropLast_concat]
      exact h.more hs
    · rw [if_neg hs]
      refine h.fresh (fun i' s' hs' => ?_)
      have := List.append_inj' hs' rfl
      simp only [List.cons.injEq, and_true] at this
      rw [← this.2]
      exact hs
theorem spanN_sp (m : Mp) (x : X) (n i : Nat) (out l : List (Int × Int)) (h : spanN m x n i out = (l, 0)) (hs : Sp (fun j => (transR m (x.block + j) x.part).1) out i) :
    Sp (fun j => (transR m (x.block + j) x.part).1) l (i + n) ∧ ∀ j, i ≤ j → j < i + n → (transR m (x.block + j) x.part).2 = 0 := by
  induction n generalizing i out with
  | zero =>
    unfold spanN at h
    simp only [Prod.mk.injEq, and_true] at h
    subst h
    exact ⟨hs, fun j h1 h2 => by omega⟩
  | succ n ih =>
    unfold spanN at h
    by_cases he : (transR m (x.block + i) x.part).2 = 0
    · rw [if_neg (by simp [he])] at h
      obtain ⟨a, b⟩ := ih (i + 1) _ h hs.push
      refine ⟨by rw [show i + (n + 1) = i + 1 + n by omega]; exact a, fun j h1 h2 => ?_⟩
      by_cases hj : j = i
      · subst hj; exact he
      · exact b j (by omega) (by omega)
    · rw [if_pos he] at h
      simp only [Prod.mk.injEq] at h
      exact absurd h.2 he
theorem spanN_err (m : Mp) (x : X) (n i : Nat) (out : List (Int × Int)) (h : (spanN m x n i out).2 ≠ 0) : (spanN m x n i out).1 = [] := by
  induction n generalizing i out with
  | zero => exact absurd rfl h
  | succ n ih =>
    unfold spanN at h ⊢
    by_cases he : (transR m (x.block + i) x.part).2 = 0
    · rw [if_neg (by simp [he])] at h ⊢
      exact ih _ _ h
    · rw [if_pos he]
theorem spanN_bad {m : Mp} {x : X} {n i : Nat} {out : List (Int × Int)} (h : (transR m (x.block + i) x.part).2 ≠ 0) : spanN m x (n + 1) i out = ([], (transR m (x.block + i) x.part).2) := by
  unfold spanN
  rw [if_pos h]
theorem spanN_ok {m : Mp} {x : X} {n i : Nat} {out : List (Int × Int)} (h : (transR m (x.block + i) x.part).2 = 0) : spanN m x (n + 1) i out = spanN m x n (i + 1) (push out (transR m (x.block + i) x.part).1) := by
  conv => lhs; unfold spanN
  rw [if_neg (fun h' => h' h)]
theorem push_nil (z : Int) : push [] z = [(z, 1)] := rfl
theorem push_join {L : List (Int × Int)} {p q z : Int} (h : p + q = z) : push (L ++ [(p, q)]) z = L ++ [(p, q + 1)] := by
  unfold push
  rw [List.getLast?_append]
  simp only [List.getLast?_singleton, Option.some_or]
  rw [if_pos h, List.dropLast_concat]
theorem push_new {L : List (Int × Int)} {p q z : Int} (h : ¬ p + q = z) : push (L ++ [(p, q)]) z = L ++ [(p, q)] ++ [(z, 1)] := by
  unfold push
  rw [List.getLast?_append]
  simp only [List.getLast?_singleton, Option.some_or]
  rw [if_neg h]
/-- Spans of a bounded size. -/
def SpBd (L : List (Int × Int)) (i : Nat) : Prop := L.length ≤ i ∧ ∀ s ∈ L, -4398046511104 ≤ s.1 ∧ s.1 ≤ 4398046511104 ∧ 1 ≤ s.2 ∧ s.2 ≤ i
theorem SpBd.nil (i : Nat) : SpBd [] i := ⟨Nat.zero_le _, fun s hs => by cases hs⟩
theorem SpBd.join {L : List (Int × Int)} {p q : Int} {i : Nat} (h : SpBd (L ++ [(p, q)]) i) : SpBd (L ++ [(p, q + 1)]) (i + 1) := by
  refine ⟨?_, fun s hs => ?_⟩
  · have := h.1
    simp only [List.length_append, List.length_cons, List.length_nil] at this ⊢
    omega
  · rcases List.mem_append.1 hs with h1 | h1
    · have := h.2 s (List.mem_append_left _ h1)
      omega
    · rw [List.mem_singleton.1 h1]
      have := h.2 (p, q) (by simp)
      simp only at this ⊢
      omega
theorem SpBd.new {L : List (Int × Int)} {z : Int} {i : Nat} (h : SpBd L i) (hz : -4398046511104 ≤ z ∧ z ≤ 4398046511104) : SpBd (L ++ [(z, 1)]) (i + 1) := by
  refine ⟨?_, fun s hs => ?_⟩
  · have := h.1
    simp only [List.length_append, List.length_cons, List.length_nil]
    omega
  · rcases List.mem_append.1 hs with h1 | h1
    · have := h.2 s h1
      omega
    · rw [List.mem_singleton.1 h1]
      simp only
      omega
theorem SpBd.last {L : List (Int × Int)} {p q : Int} {i : Nat} (h : SpBd (L ++ [(p, q)]) i) : L.length + 1 ≤ i ∧ -4398046511104 ≤ p ∧ p ≤ 4398046511104 ∧ 1 ≤ q ∧ q ≤ i := by
  have h1 := h.1
  simp only [List.length_append, List.length_cons, List.length_nil] at h1
  exact ⟨h1, h.2 (p, q) (by simp)⟩
theorem phys_bd (m : Mp) (b : Int) (h0 : -1099511627776 ≤ m.start) (h1 : m.start ≤ 1099511627776) (h2 : m.count ≤ 1099511627776) : -4398046511100 ≤ (phys m b).1 ∧ (phys m b).1 ≤ 4398046511100 := by
  unfold phys
  split
  · exact ⟨by show (-4398046511100 : Int) ≤ 0; omega, by show (0 : Int) ≤ 4398046511100; omega⟩
  · simp only
    omega
theorem spare_bd (l : List (Int × Int)) (b d : Int) (hl : ∀ x ∈ l, -1099511627776 ≤ x.2 ∧ x.2 ≤ 1099511627776) (hd : -4398046511100 ≤ d ∧ d ≤ 4398046511100) : -4398046511104 ≤ spare l b d ∧ spare l b d ≤ 4398046511104 := by
  unfold spare
  cases hf : l.find? (fun s => decide (s.1 = b - b % 8)) with
  | none => simp only; omega
  | some s =>
    have := hl s (List.mem_of_find?_eq_some hf)
    simp only
    omega
theorem transR_bd (m : Mp) (b p : Int) (h0 : -1099511627776 ≤ m.start) (h1 : m.start ≤ 1099511627776) (h2 : m.count ≤ 1099511627776) (hl : ∀ x ∈ m.spares, -1099511627776 ≤ x.2 ∧ x.2 ≤ 1099511627776) : -4398046511104 ≤ (transR m b p).1 ∧ (transR m b p).1 ≤ 4398046511104 := by
  have ph := fun b => phys_bd m b h0 h1 h2
  have z : ∀ e : Int, -4398046511104 ≤ ((0 : Int), e).1 ∧ ((0 : Int), e).1 ≤ 4398046511104 := fun e => ⟨by show (-4398046511104 : Int) ≤ 0; omega, by show (0 : Int) ≤ 4398046511104; omega⟩
  have w : ∀ b, -4398046511104 ≤ (phys m b).1 ∧ (phys m b).1 ≤ 4398046511104 := fun b => by have := ph b; omega
  unfold transR
  by_cases a0 : p < 0 ∨ (m.maps.length : Int) ≤ p
  · rw [if_pos a0]; exact z 1
  rw [if_neg a0]
  dsimp only
  by_cases k0 : (m.maps.getD p.toNat none).kind = 0
  · rw [if_pos k0]; exact w b
  rw [if_neg k0]
  by_cases k1 : (m.maps.getD p.toNat none).kind = 1
  · rw [if_pos k1]
    split
    · exact z 2
    · split
      · exact z 6
      · exact w _
  rw [if_neg k1]
  by_cases k2 : (m.maps.getD p.toNat none).kind = 2
  · rw [if_pos k2]
    split
    · exact z _
    · exact spare_bd m.spares b _ hl (ph b)
  rw [if_neg k2]
  by_cases k3 : (m.maps.getD p.toNat none).kind = 3
  · rw [if_pos k3]
    split
    · exact z 2
    · exact w _
  rw [if_neg k3]
  exact z 14
end Pm
end Go.Proofs.YtlcdhlfkffkifaaGreatDoor

/-
  Rows of spans that a call owns: one more at the end; the last one's count raised.
-/
namespace Go.Proofs.YtlcdhlfkffkifaaGreatDoor
open Go.RowKit
namespace Pm
/-- The cells of spans. -/
def spL (L : List (Int × Int)) : List Value := L.flatMap spC
theorem spL_len (L : List (Int × Int)) : (spL L).length = L.length * 2 := by
  induction L with
  | nil => rfl
  | cons p t ih => simp only [spL, List.flatMap_cons, List.length_append, List.length_cons] at ih ⊢; rw [ih]; simp [spC]; omega
theorem spL_at (L : List (Int × Int)) (j : Nat) (h : j < L.length) (k : Nat) (hk : k < 2) : (spL L)[j * 2 + k]? = (spC (L.getD j (0, 0)))[k]? := by
  induction L generalizing j with
  | nil => simp at h
  | cons p t ih =>
    have hc : spL (p :: t) = spC p ++ spL t := rfl
    have h6 : (spC p).length = 2 := rfl
    rw [hc]
    cases j with
    | zero =>
      rw [List.getElem?_append_left (by rw [h6]; omega)]
      simp
    | succ j =>
      rw [List.getElem?_append_right (by rw [h6]; omega), h6, show (j + 1) * 2 + k - 2 = j * 2 + k by omega, ih j (by simpa using h)]
      simp
theorem spL_app (L : List (Int × Int)) (p : Int × Int) : spL (L ++ [p]) = spL L ++ spC p := by simp [spL]
theorem spL_set (L : List (Int × Int)) (p : Int × Int) (z : Int) : (spL (L ++ [p])).set (L.length * 2 + 1) (.int .i64 z) = spL (L ++ [(p.1, z)]) := by
  have hl := spL_len L
  rw [spL_app, spL_app, List.set_append_right _ _ (by rw [hl]; omega), hl, show L.length * 2 + 1 - L.length * 2 = 1 by omega]
  rfl
/-- A row of spans of the call's own. -/
abbrev OwnS (w : World) (base : Nat) (v : Value) (L : List (Int × Int)) : Prop := w.ownsRow base 37 2 v L.length (spL L)
theorem OwnS.nil (w : World) (base : Nat) : OwnS w base (.slice Option.none 0 0) [] := ⟨rfl, Or.inl ⟨rfl, rfl⟩⟩
theorem OwnS.row {w : World} {base : Nat} {v : Value} {L : List (Int × Int)} (h : OwnS w base v L) : Kit.RowN w v 2 L.length (fun j => spC (L.getD j (0, 0))) := by
  rcases h.2 with ⟨rfl, h0⟩ | ⟨g, cap, cur, rfl, _, hg, hnc, hcm, _, _⟩
  · exact ⟨Option.none, 0, by rw [h0], by omega, by unfold maxLen; omega, fun h' => by omega⟩
  · refine ⟨some ⟨g, 0, Option.none⟩, cap, rfl, hnc, hcm, fun _ => ⟨g, 0, rfl, (Array.getElem?_eq_some_iff.1 hg).1, fun j hj k u hu => ?_⟩⟩
    have hk : k < 2 := (List.getElem?_eq_some_iff.1 hu).1
    have := h.cells (g := g) rfl (j * 2 + k) u (by rw [spL_at L j hj k hk]; exact hu)
    rw [Addr.add_lit] at this
    rwa [show 0 + j * 2 + k = 0 + (j * 2 + k) by omega]
end Pm

/-- 'append(v, x)': one span more behind a row of the call's own; its cells have just been laid. -/
theorem pushS {W : World} {ops : Array Oper} {rest : List Oper} {o : Oper} {a : Act} {Q : Exit → Act → World → Prop} (hgd : o.guard = none) (s x : Operand)
    (ho : o.op = .call { callee := .builtin .append, args := #[s, x], argTypes := #[50, 50] })
    (base : Nat) (v : Value) (L : List (Int × Int)) (hs : a.eval s = v) (hown : Pm.OwnS W base v L) (p q : Int)
    (c g : Nat) (hx : a.eval x = .slice (some ⟨g, 0, none⟩) 1 c) (hgs : g = W.heap.size) (h8 : L.length ≤ 100000) (hbase : base ≤ W.heap.size)
    (h : ∀ v' w', Pm.OwnS w' base v' (L ++ [(p, q)]) → Below base W w' → wpList Tryz.prog ops Q rest (a.put o.dst v') w') :
    wpList Tryz.prog ops Q (o :: rest) a (W.alloc (.cells #[.int .i64 p, .int .i64 q] 37)) := by
  subst hgs
  have hinfo : (Tryz.prog.info? 37).map (fun i => (i.zero, i.size, i.bytes)) = some (some (.agg #[.int .i64 0, .int .i64 0]), 2, 16) := by kernel_rfl
  obtain ⟨i, hi, hz0, hz1, hz2⟩ := info_parts hinfo
  have ht : Tryz.prog.underlying 50 = some (.slice 37) := by kernel_rfl
  have h1 : ∀ u ∈ Pm.spC (p, q), u.oneCell' = true := by
    intro u hu
    simp only [Pm.spC, List.mem_cons, List.not_mem_nil, or_false] at hu
    rcases hu with rfl | rfl <;> rfl
  refine wpList_append_own _ hgd s x _ ho base 37 i _ 2 16 ht hi hz0 hz1 hz2 rfl (by decide) v L.length (Pm.spL L) hs (hown.alloc _) ⟨W.heap.size, 0, none⟩ 1 c (Pm.spC (p, q)) hx rfl ?_ h1 (by unfold maxLen; omega) (by omega) (by simp; omega) ?_
  · intro j u hu
    rw [Addr.add_lit, World.cell?_alloc_at _ _ _ _ (by simp)]
    simpa [Pm.spC] using hu
  · intro v' w' ho' hg _
    have hg2 := (World.grownBy_alloc W (.cells #[.int .i64 p, .int .i64 q] 37) v.ownBlock).trans hg
    have hb : Below base W w' := (Below.refl base W).grown hg2 hbase (fun k hk => (hown.lt k hk).1)
    refine h v' w' ?_ hb
    show w'.ownsRow base 37 2 v' (L ++ [(p, q)]).length (Pm.spL (L ++ [(p, q)]))
    rw [Pm.spL_app, List.length_append]
    exact ho'
/-- The last span's cells, and what a raised count leaves. -/
theorem lastS {W : World} {base : Nat} {v : Value} {L : List (Int × Int)} {p q : Int} (h : Pm.OwnS W base v (L ++ [(p, q)])) :
    ∃ g cap, v = .slice (some ⟨g, 0, none⟩) (L.length + 1) cap ∧ base ≤ g ∧ g < W.heap.size ∧ L.length + 1 ≤ cap ∧ cap ≤ maxLen ∧ W.cell? ⟨g, L.length * 2, none⟩ = some (.int .i64 p) ∧ W.cell? ⟨g, L.length * 2 + 1, none⟩ = some (.int .i64 q) ∧ W.frozen? ⟨g, L.length * 2 + 1, none⟩ = false ∧
      ∀ z : Int, Pm.OwnS (W.setCell ⟨g, L.length * 2 + 1, none⟩ (.int .i64 z)) base (.slice (some ⟨g, 0, none⟩) (L.length + 1) cap) (L ++ [(p, z)]) ∧ (base ≤ g → Below base W (W.setCell ⟨g, L.length * 2 + 1, none⟩ (.int .i64 z))) := by
  have hlen : (L ++ [(p, q)]).length = L.length + 1 := by simp
  have h0 := h
  rcases h.2 with ⟨_, hz⟩ | ⟨g, cap, cur, rfl, hb, hg, hnc, hcm, _, _⟩
  · rw [hlen] at hz; omega
  · rw [hlen] at *
    have c0 := h0.cells (g := g) rfl (L.length * 2 + 0) (.int .i64 p) (by rw [Pm.spL_at _ _ (by simp) 0 (by omega), Pm.getD_last]; rfl)
    have c1 := h0.cells (g := g) rfl (L.length * 2 + 1) (.int .i64 q) (by rw [Pm.spL_at _ _ (by simp) 1 (by omega), Pm.getD_last]; rfl)
    rw [Addr.add_lit] at c0 c1
    simp only [Nat.zero_add, Nat.add_zero] at c0 c1
    have h0' : W.ownsRow base 37 2 (.slice (some ⟨g, 0, none⟩) (L.length + 1) cap) (L.length + 1) (Pm.spL (L ++ [(p, q)])) := by
      have := h0
      simp only [Pm.OwnS, List.length_append, List.length_cons, List.length_nil, Nat.zero_add] at this
      exact this
    refine ⟨g, cap, rfl, hb, (Array.getElem?_eq_some_iff.1 hg).1, hnc, hcm, c0, c1, h0'.frozenAt _, fun z => ⟨?_, fun hbg => (Below.refl base W).setCell (p := ⟨g, L.length * 2 + 1, none⟩) hbg _⟩⟩
    have := (h0'.stored (L.length * 2 + 1) (.int .i64 z)).1
    rw [Pm.spL_set] at this
    show World.ownsRow _ base 37 2 _ (L ++ [(p, z)]).length (Pm.spL (L ++ [(p, z)]))
    rw [show (L ++ [(p, z)]).length = L.length + 1 by simp]
    exact this
end Go.Proofs.YtlcdhlfkffkifaaGreatDoor

/-
  The walk through partitionmap.Spans.
-/
namespace Go.Proofs.YtlcdhlfkffkifaaGreatDoor
open Go.RowKit
attribute [local go_sem ↓] Go.wp_at_zero Go.wp_at_succ
/-- An extent as one row. -/
theorem extOne (W : World) (x : Pm.X) (g : Nat) (hg : g = W.heap.size) : Pm.ExtsAt (W.alloc (.cells #[.int .i64 x.kind, .int .i64 x.length, .int .i64 x.block, .int .i64 x.part] 49)) (.slice (some ⟨g, 0, none⟩) 1 1) [x] := by
  subst hg
  refine ⟨⟨some ⟨W.heap.size, 0, none⟩, 1, rfl, Nat.le_refl _, by unfold maxLen; omega, fun _ => ⟨W.heap.size, 0, rfl, by simp, fun j hj k u hu => ?_⟩⟩⟩
  obtain rfl : j = 0 := by have : j < 1 := hj; omega
  rw [World.cell?_alloc_at _ _ _ _ (by simp)]
  simpa [Pm.exC] using hu
/-- What Spans hands back. -/
def SpanP (w : World) (r : List (Int × Int) × Int) (e : Ending) (w' : World) : Prop := ∃ u, e = .returned (.tuple #[u, .int .i64 r.2]) ∧ Pm.OwnS w' w.heap.size u r.1 ∧ Below w.heap.size w w'
theorem SpanP.mk' {w w' : World} {r : List (Int × Int) × Int} {e : Ending} (u : Value) (L : List (Int × Int)) (c : Int) (he : e = .returned (.tuple #[u, .int .i64 c])) (hr : r = (L, c)) (ho : Pm.OwnS w' w.heap.size u L) (hb : Below w.heap.size w w') : SpanP w r e w' := by
  subst hr
  exact ⟨u, he, ho, hb⟩

set_option maxHeartbeats 25600000 in
set_option maxRecDepth 100000 in
/-- partitionmap.Spans. -/
theorem spans_any (v : Value) (m : Pm.Mp) (v0 v1 v2 v3 v4 : Value) (n4 : Nat) (T : Nat → Value) (x : Pm.X) (w : World) (h : Frame.MapIn w v m v0 v1 v2 v3 v4 n4 T) (ho : FewOk m) :
    Calls Tryz.prog 23 #[v, Pm.exV x] w (SpanP w (Pm.spansR m x)) := by
  have hval := h.val
  subst hval
  have HI := Lib.hid h
  have HO := Lib.hid ho
  obtain ⟨A4, c4, hv4, _⟩ := h.mirror
  subst hv4
  have CT := Lib.hid (fun W (hW : Frame.MapIn W (Pm.mpV m v0 v1 v2 v3 (.slice A4 n4 c4)) m v0 v1 v2 v3 (.slice A4 n4 c4) n4 T) b h0 h1 => translate_all m v0 v1 v2 v3 A4 n4 c4 T b x.part W ho.few ⟨hW.vat.1, hW.spares⟩ hW.maps ho.maps hW.mdat h0 h1)
  have HBD := Lib.hid (fun b => Pm.transR_bd m b x.part ho.few.s0 ho.few.s1 ho.few.c1 ho.few.sp)
  obtain ⟨A0, c0, hv0, _⟩ := h.maps.row
  obtain ⟨A1, c1, hv1, _⟩ := h.vat.1
  obtain ⟨A2, c2, hv2, _⟩ := h.spares
  obtain ⟨A3, c3, hv3, _⟩ := h.mdat.row
  subst hv0 hv1 hv2 hv3
  rw [Kit.izs_length] at *
  have CE := Lib.hid (fun W v h => encodeLong_one v x W h)
  have HEX := Lib.hid (fun W g hg => extOne W x g hg)
  have HR := Lib.hid (show Pm.spansR m x = if ¬ Pm.formed1 x = true ∨ x.kind = 3 then ([], 1) else if x.kind = 2 then ([], 0) else if 4096 < Pm.cnt x.length then ([], 7) else Pm.spanN m x (Pm.cnt x.length).toNat 0 [] from rfl)
  have hT0 := fun (T U : TypeId) => TwoB.new w #[.slice A0 m.maps.length c0, .int .i64 m.start, .int .i64 m.count, .slice A1 m.vat.length c1, .slice A2 m.spares.length c2, .slice A3 m.mdat.length c3, .slice A4 n4 c4] #[.int .i64 x.kind, .int .i64 x.length, .int .i64 x.block, .int .i64 x.part] T U
  have HT0 := Lib.hid (hT0 41 49)
  clear h ho hT0
  cases hfx : Pm.formed1 x with
  | false =>
    have HQ := Lib.hid (HR.out.trans (if_pos (Or.inl (by rw [hfx]; decide))))
    rw [hfx] at CE
    clear HR CT HBD hfx HO
    generalize Pm.spansR m x = R at *
    unfold Pm.exV
    unfold Pm.mpV at *
    obtain ⟨k, n, bb, pp⟩ := x
    obtain ⟨maps, s, c, vat, sps, me⟩ := m
    simp only [] at *
    go_enter Tryz.func23, Tryz.ntmps23
    go_wp2_with fail
    with_reducible refine (CE.out _ _ (HEX.out _ _ (by simp))).mono ?_
    rintro e w2 ⟨st, rfl, hb2⟩
    have HT2 := Lib.hid ((HT0.out.below ((Below.refl _ _).alloc (Nat.le_refl _) _)).below hb2)
    clear hb2
    go_wp2_with fail
    go_ret2
    exact SpanP.mk' _ [] 1 rfl HQ.out (Pm.OwnS.nil _ _) HT2.out.old
  | true =>
  have hx := (Pm.formed1_iff x).1 hfx
  rw [hfx] at CE
  have HR1 := Lib.hid (fun (h3 : ¬ x.kind = 3) => HR.out.trans (if_neg (by rw [hfx]; simp [h3])))
  have HR3 := Lib.hid (fun (h3 : x.kind = 3) => HR.out.trans (if_pos (Or.inr h3)))
  clear HR hfx
  by_cases k3 : x.kind = 3
  · have HQ := Lib.hid (HR3.out k3)
    clear HR1 HR3 CT HBD HO
    generalize Pm.spansR m x = R at *
    unfold Pm.exV
    unfold Pm.mpV at *
    obtain ⟨k, n, bb, pp⟩ := x
    obtain ⟨maps, s, c, vat, sps, me⟩ := m
    simp only [] at *
    subst k3
    clear hx
    go_enter Tryz.func23, Tryz.ntmps23
    go_wp2_with fail
    with_reducible refine (CE.out _ _ (HEX.out _ _ (by simp))).mono ?_
    rintro e w2 ⟨st, rfl, hb2⟩
    have hT := (HT0.out.below ((Below.refl _ _).alloc (Nat.le_refl _) _)).below hb2
    have a0 := hT.d 0 _ rfl
    have HT2 := Lib.hid hT
    clear hb2 hT
    go_wp2_with fail
    go_ret2
    exact SpanP.mk' _ [] 1 rfl HQ.out (Pm.OwnS.nil _ _) HT2.out.old
  have HR := Lib.hid (HR1.out k3)
  clear HR1 HR3
  have e3 : (x.kind == 3) = false := by rw [beq_eq_false_iff_ne]; exact k3
  by_cases k2 : x.kind = 2
  · have HQ := Lib.hid (HR.out.trans (if_pos k2))
    clear HR CT HBD HO k3
    generalize Pm.spansR m x = R at *
    unfold Pm.exV
    unfold Pm.mpV at *
    obtain ⟨k, n, bb, pp⟩ := x
    obtain ⟨maps, s, c, vat, sps, me⟩ := m
    simp only [] at *
    subst k2
    clear hx e3
    go_enter Tryz.func23, Tryz.ntmps23
    go_wp2_with fail
    with_reducible refine (CE.out _ _ (HEX.out _ _ (by simp))).mono ?_
    rintro e w2 ⟨st, rfl, hb2⟩
    have hT := (HT0.out.below ((Below.refl _ _).alloc (Nat.le_refl _) _)).below hb2
    have a0 := hT.d 0 _ rfl
    have HT2 := Lib.hid hT
    clear hb2 hT
    go_wp2_with fail
    go_ret2
    exact SpanP.mk' _ [] 0 rfl HQ.out (Pm.OwnS.nil _ _) HT2.out.old
  have HRb := Lib.hid (HR.out.trans (if_neg k2))
  clear HR
  have e2 : (x.kind == 2) = false := by rw [beq_eq_false_iff_ne]; exact k2
  clear k2 k3
  have hdiv := Pm.cnt_div x.length (by omega)
  have hcb : 1 ≤ Pm.cnt x.length ∧ Pm.cnt x.length ≤ 524288 := by unfold Pm.cnt; omega
  by_cases hbig : 4096 < Pm.cnt x.length
  · have HQ := Lib.hid (HRb.out.trans (if_pos hbig))
    have d0 : decide (4096 < (x.length + 2048 - 1) / 2048) = true := by rw [hdiv]; exact decide_eq_true hbig
    clear HRb CT HBD HO hdiv hcb hbig
    generalize Pm.spansR m x = R at *
    unfold Pm.exV
    unfold Pm.mpV at *
    obtain ⟨k, n, bb, pp⟩ := x
    obtain ⟨maps, s, c, vat, sps, me⟩ := m
    simp only [] at *
    go_enter Tryz.func23, Tryz.ntmps23
    go_wp2_with fail
    with_reducible refine (CE.out _ _ (HEX.out _ _ (by simp))).mono ?_
    rintro e w2 ⟨st, rfl, hb2⟩
    have hT := (HT0.out.below ((Below.refl _ _).alloc (Nat.le_refl _) _)).below hb2
    have a0 := hT.d 0 _ rfl
    have a1 := hT.d 1 _ rfl
    have HT2 := Lib.hid hT
    clear hb2 hT
    go_wp2_with fail
    go_ret2
    exact SpanP.mk' _ [] 7 rfl HQ.out (Pm.OwnS.nil _ _) HT2.out.old
  have HQ := Lib.hid (HRb.out.trans (if_neg hbig))
  clear HRb
  obtain ⟨N, hN, hN4⟩ : ∃ N : Nat, (N : Int) = Pm.cnt x.length ∧ N ≤ 4096 := ⟨(Pm.cnt x.length).toNat, by omega, by omega⟩
  have hNn : (Pm.cnt x.length).toNat = N := by omega
  have hdN : (x.length + 2048 - 1) / 2048 = (N : Int) := by rw [hdiv]; exact hN.symm
  rw [hNn] at HQ
  clear hdiv hcb hbig hN hNn
  have KB := Lib.hid (fun n i out h => Pm.spanN_bad (m := m) (x := x) (n := n) (i := i) (out := out) h)
  have KO := Lib.hid (fun n i out h => Pm.spanN_ok (m := m) (x := x) (n := n) (i := i) (out := out) h)
  have KZ := Lib.hid (show ∀ i out, Pm.spanN m x 0 i out = (out, 0) from fun _ _ => rfl)
  generalize Pm.spanN m x = SN at *
  obtain ⟨TR, hTR⟩ : ∃ TR : Int → Int × Int, ∀ b, Pm.transR m b x.part = TR b := ⟨fun b => _, fun _ => rfl⟩
  simp only [hTR] at KB KO CT HBD
  clear hTR HO
  generalize Pm.spansR m x = R0 at *
  unfold Pm.exV
  unfold Pm.mpV at *
  obtain ⟨k, n, bb, pp⟩ := x
  obtain ⟨maps, s, c, vat, sps, me⟩ := m
  simp only [] at *
  obtain ⟨x1, x2, x3, x4, x5, x6, x7, x8⟩ := hx
  go_enter Tryz.func23, Tryz.ntmps23
  go_wp2_with fail
  with_reducible refine (CE.out _ _ (HEX.out _ _ (by simp))).mono ?_
  rintro e w2 ⟨st, rfl, hb2⟩
  have hT := (HT0.out.below ((Below.refl _ _).alloc (Nat.le_refl _) _)).below hb2
  have a0 := hT.d 0 _ rfl
  have a1 := hT.d 1 _ rfl
  have hsz2 := hT.size
  have HT2 := Lib.hid hT
  clear hb2 hT HT0 CE HEX
  go_wp2_with fail
  rw [hdN]
  clear a0 a1 hdN e2 e3
  go_loopw [9, 10, 11, 12, 13, 38] (fun ov _ _ _ _ iv wr => ∃ (i : Nat) (L : List (Int × Int)), i ≤ N ∧ iv = .int .i64 i ∧ Pm.SpBd L i ∧ Pm.OwnS wr w2.heap.size ov L ∧ Hid (SN N 0 [] = SN (N - i) i L) ∧ w2.heap.size ≤ wr.heap.size ∧ TwoB w wr #[.slice A0 maps.length c0, .int .i64 s, .int .i64 c, .slice A1 vat.length c1, .slice A2 sps.length c2, .slice A3 me.length c3, .slice A4 n4 c4] #[.int .i64 k, .int .i64 n, .int .i64 bb, .int .i64 pp]) (fun _ _ _ _ _ iv _ => N - (intOf iv).toNat)
  case atStart => exact ⟨0, [], Nat.zero_le _, rfl, Pm.SpBd.nil 0, Pm.OwnS.nil _ _, Lib.hid rfl, Nat.le_refl _, HT2.out⟩
  case round =>
    obtain ⟨i, L, hi, rfl, hbd, hown, HS, hsz, hT⟩ := hrel
    by_cases hlt : i < N
    · have hlt' : (i : Int) < (N : Int) := by omega
      have y0 := hT.c 0 _ rfl
      have y1 := hT.c 1 _ rfl
      have y2 := hT.c 2 _ rfl
      have y3 := hT.c 3 _ rfl
      have y4 := hT.c 4 _ rfl
      have y5 := hT.c 5 _ rfl
      have y6 := hT.c 6 _ rfl
      have a2 := hT.d 2 _ rfl
      have a3 := hT.d 3 _ rfl
      have C := Lib.hid (CT.out wr (HI.out.below hT.old) (bb + (i : Int)) (by omega) (by omega))
      have hbR := HBD.out (bb + (i : Int))
      have hNi : N - i = N - (i + 1) + 1 := by omega
      have HS1 := HS.out
      rw [hNi] at HS1
      have KBi := Lib.hid (fun h => HS1.trans (KB.out (N - (i + 1)) i L h))
      have KOi := Lib.hid (fun h => HS1.trans (KO.out (N - (i + 1)) i L h))
      have HTr := Lib.hid hT
      clear hT HS1 hNi
      generalize TR (bb + (i : Int)) = R at *
      obtain ⟨R1, R2⟩ := R
      simp only [] at *
      by_cases he : R2 = 0
      case neg =>
        have HE := Lib.hid (KBi.out he)
        have de : (R2 != 0) = true := by rw [bne_iff_ne]; exact he
        have hrow := hown.row
        obtain ⟨AO, cO, rfl, _, _, _⟩ := hrow
        clear KOi KBi he hbR hown hbd
        go_wp2_with fail
        refine C.out.mono ?_
        rintro e w3 ⟨rfl, hb3⟩
        go_wp2_with fail
        go_ret2
        exact SpanP.mk' _ [] R2 rfl (HQ.out.trans HE.out) (Pm.OwnS.nil _ _) (HTr.out.below hb3).old
      case pos =>
      subst he
      have HK := Lib.hid (KOi.out rfl)
      clear KBi KOi
      have hL8 : L.length ≤ 100000 := by have := hbd.1; omega
      rcases List.eq_nil_or_concat L with rfl | ⟨L', pq, hLe⟩
      · have HN := Lib.hid (HK.out.trans (by rw [Pm.push_nil]))
        have HBN := Lib.hid (Pm.SpBd.new hbd ⟨hbR.1, hbR.2⟩)
        have hrow := hown.row
        obtain ⟨AO, cO, rfl, hcO, hcOm, _⟩ := hrow
        simp only [List.length_nil] at hcO hown hL8
        have HOW := Lib.hid hown
        unfold maxLen at hcOm
        clear hown hbd HK HS
        go_wp2_with fail
        refine C.out.mono ?_
        rintro e w3 ⟨rfl, hb3⟩
        have HO3 := Lib.hid (Kit.own_below HOW.out hb3)
        have HT3 := Lib.hid (HTr.out.below hb3)
        have hsz3 := Nat.le_trans hsz hb3.size
        clear hb3 HOW HTr y0 y1 y2 y3 y4 y5 y6 a2 a3
        go_wp2_with fail
        go_quiet (fail)
        have HOq := Lib.hid (show Pm.OwnS (w3.drewN nq) w2.heap.size (.slice AO 0 cO) [] from HO3.out)
        have HTq := Lib.hid (HT3.out.below (Kit.below_drewN nq))
        have hszq : w2.heap.size ≤ (w3.drewN nq).heap.size := hsz3
        clear HO3 HT3 hsz3
        generalize w3.drewN nq = wq at *
        go_wp2_with (at_builtin; refine pushS rfl (.tmp 86) (.tmp 89) rfl w2.heap.size _ [] rfl HOq.out R1 1 1 _ rfl ?q1 hL8 hszq ?_)
        case q1 => rfl
        intro v' w' ho' hb'
        have HOn := Lib.hid ho'
        have HTn := Lib.hid (HTq.out.later (hb'.mono hsz2))
        have hszn := Nat.le_trans hszq (hb'.size)
        clear ho' hb' HOq HTq hszq
        go_wp2_with fail
        go_roundw
        case rel => exact ⟨i + 1, [] ++ [(R1, 1)], by omega, by go_num, HBN.out, HOn.out, HN, hszn, HTn.out⟩
        case measure => simp [intOf]; omega
      · obtain ⟨p, q⟩ := pq
        rw [List.concat_eq_append] at hLe
        subst hLe
        have hlb := hbd.last
        obtain ⟨g, cap, rfl, hbg, _, hkc, hcm, _, _, _, _⟩ := lastS hown
        have hLl : (L' ++ [(p, q)]).length = L'.length + 1 := by simp
        rw [hLl] at hL8
        have HOW := Lib.hid hown
        have HJ := Lib.hid (fun (h : p + q = R1) => (⟨HK.out.trans (by rw [Pm.push_join h]), hbd.join⟩ : SN N 0 [] = SN (N - (i + 1)) (i + 1) (L' ++ [(p, q + 1)]) ∧ Pm.SpBd (L' ++ [(p, q + 1)]) (i + 1)))
        have HW := Lib.hid (fun (h : ¬ p + q = R1) => (⟨HK.out.trans (by rw [Pm.push_new h]), Pm.SpBd.new hbd ⟨hbR.1, hbR.2⟩⟩ : SN N 0 [] = SN (N - (i + 1)) (i + 1) (L' ++ [(p, q)] ++ [(R1, 1)]) ∧ Pm.SpBd (L' ++ [(p, q)] ++ [(R1, 1)]) (i + 1)))
        unfold maxLen at hcm
        clear hown hbd HK HS hLl
        obtain ⟨hl1, hp1, hp2, hq1, hq2⟩ := hlb
        have hk0 : (0 : Int) ≤ (L'.length : Int) := by omega
        have hk1 : (L'.length : Int) < ((L'.length + 1 : Nat) : Int) := by omega
        have dk : decide ((0 : Int) ≤ (L'.length : Int)) = true := decide_eq_true hk0
        have hwp : IntKind.i64.wrap (p + q) = p + q := IntWalk.i64_in _ (by omega)
        go_wp2_with fail
        refine C.out.mono ?_
        rintro e w3 ⟨rfl, hb3⟩
        have HO3 := Lib.hid (Kit.own_below HOW.out hb3)
        have HT3 := Lib.hid (HTr.out.below hb3)
        have hsz3 := Nat.le_trans hsz hb3.size
        clear hb3 HOW HTr y0 y1 y2 y3 y4 y5 y6 a2 a3
        obtain ⟨g', cap', hv', _, _, _, _, c0', c1', f1', _⟩ := lastS HO3.out
        obtain ⟨rfl, rfl⟩ : g = g' ∧ cap = cap' := by simpa using hv'
        clear hv'
        by_cases hj : p + q = R1
        · have HN := Lib.hid (HJ.out hj)
          have dq : (p + q == R1) = true := by rw [beq_iff_eq]; exact hj
          clear HJ HW hj
          go_wp2_with fail
          go_quiet (fail)
          have HOq := Lib.hid (show Pm.OwnS (w3.drewN nq) w2.heap.size (.slice (some ⟨g, 0, none⟩) (L'.length + 1) cap) (L' ++ [(p, q)]) from HO3.out)
          have HTq := Lib.hid (HT3.out.below (Kit.below_drewN nq))
          have hszq : w2.heap.size ≤ (w3.drewN nq).heap.size := hsz3
          clear HO3 HT3 hsz3 c0' c1' f1'
          generalize w3.drewN nq = wq at *
          obtain ⟨g', cap', hv', _, _, _, _, c0', c1', f1', hset⟩ := lastS HOq.out
          obtain ⟨rfl, rfl⟩ : g = g' ∧ cap = cap' := by simpa using hv'
          clear hv'
          have HSET := Lib.hid (hset (q + 1))
          clear hset
          go_wp2_with fail
          have HOn := Lib.hid HSET.out.1
          have hb' := HSET.out.2 hbg
          have HTn := Lib.hid (HTq.out.later (hb'.mono hsz2))
          have hszn := Nat.le_trans hszq (hb'.size)
          clear hb' HOq HTq hszq
          go_roundw
          case rel => exact ⟨i + 1, L' ++ [(p, q + 1)], by omega, by go_num, HN.out.2, HOn.out, Lib.hid HN.out.1, hszn, HTn.out⟩
          case measure => simp [intOf]; omega
        · have HN := Lib.hid (HW.out hj)
          have dq : (p + q == R1) = false := by rw [beq_eq_false_iff_ne]; exact hj
          clear HJ HW hj
          go_wp2_with fail
          go_quiet (fail)
          have HOq := Lib.hid (show Pm.OwnS (w3.drewN nq) w2.heap.size (.slice (some ⟨g, 0, none⟩) (L'.length + 1) cap) (L' ++ [(p, q)]) from HO3.out)
          have HTq := Lib.hid (HT3.out.below (Kit.below_drewN nq))
          have hszq : w2.heap.size ≤ (w3.drewN nq).heap.size := hsz3
          clear HO3 HT3 hsz3 c0' c1' f1'
          generalize w3.drewN nq = wq at *
          have hL9 : (L' ++ [(p, q)]).length ≤ 100000 := by simpa using hL8
          go_wp2_with (at_builtin; refine pushS rfl (.tmp 86) (.tmp 89) rfl w2.heap.size _ (L' ++ [(p, q)]) rfl HOq.out R1 1 1 _ rfl ?q2 hL9 hszq ?_)
          case q2 => rfl
          intro v' w' ho' hb'
          have HOn := Lib.hid (show Pm.OwnS w' w2.heap.size v' (L' ++ [(p, q)] ++ [(R1, 1)]) by rw [List.append_assoc]; exact ho')
          have HTn := Lib.hid (HTq.out.later (hb'.mono hsz2))
          have hszn := Nat.le_trans hszq (hb'.size)
          clear ho' hb' HOq HTq hszq
          go_wp2_with fail
          go_roundw
          case rel => exact ⟨i + 1, L' ++ [(p, q)] ++ [(R1, 1)], by omega, by go_num, HN.out.2, HOn.out, Lib.hid HN.out.1, hszn, HTn.out⟩
          case measure => simp [intOf]; omega
    · obtain rfl : i = N := by omega
      have HF := Lib.hid (show SN i 0 [] = (L, 0) by rw [HS.out, Nat.sub_self]; exact KZ.out _ _)
      have hrow := hown.row
      obtain ⟨AO, cO, rfl, _, _, _⟩ := hrow
      have HOW := Lib.hid hown
      clear hown
      go_wp2_with fail
      go_ret2
      exact SpanP.mk' _ L 0 rfl (HQ.out.trans HF.out) (Kit.own_base HOW.out (by omega)) hT.old
end Go.Proofs.YtlcdhlfkffkifaaGreatDoor

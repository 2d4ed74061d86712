/-
  vat.Find's iterator at the example's partition, and the functions that it calls.
-/
import Derived.RangeFuncNested
import Derived.RangeFuncBound
import Derived.RangeFuncCalls
import Derived.RangeFuncLeaves
import Derived.RangeFuncBox
import Derived.Shelf.Abstract
import Derived.Shelf.RegionOpen
import Derived.OwnWalkIn
import Derived.TacticsInMore
import Derived.LoopNIn
import Derived.LoopIn
import Derived.Maps.OwnIn
import Derived.StringKeys
import Derived.BigRegionIn
import Derived.Sort.CutIn
import Derived.Test.YtiekfipjbmdkpaaGreatDoorQa
import Derived.Test.YtiekfipjbmdkpaaGreatDoorSxd
import Derived.Test.YtiekfipjbmdkpaaGreatDoorFe
namespace Go.Proofs.YtiekfipjbmdkpaaGreatDoor
open Go.RowKit Go.Shelf Go.Maps
attribute [local go_sem] Oper.semAt_some
namespace Sx
open Go.Sx
/-- Any place for names. -/
def E0 : Env := ⟨fun _ => (0, 0), fun _ => 0⟩
theorem repE (E : Env) (w : World) : Rep Tryz.prog E empH w := ⟨fun id p h => by simp [empH, PT.get] at h, fun i j oi oj h => by simp [empH, PT.get] at h⟩
set_option maxRecDepth 100000 in
/-- A run at values without names, as a contract. -/
theorem plain_calls {f : Nat} {fn : Func} (hf : Tryz.prog.funcs[f]? = some fn) (hn : (fn.name == "runtime.NumGoroutine") = false) (hb : fn.body.isNone = false) {n : Nat} {args : List AV} {v : AV} (hv : plainV v = true)
    (h : rchk (eqV v) (call Tryz.prog fnK orcK noCuts n f args empH) = true) {xs : List Value} (hx : VRs E0 0 args xs) (w : World) :
    Calls Tryz.prog f xs.toArray w fun e w' => ∃ x, e = .returned x ∧ (Below w.heap.size w w' ∧ VR E0 0 v x) :=
  CallsF.calls hf hn hb (ranP given0 (H := empH) hv h rfl (repE _ _) hx)
end Sx

set_option maxRecDepth 100000 in
theorem isPart_ex (w : World) : Calls Tryz.prog 70 #[.agg #[.int .i64 264, .int .i64 276]] w fun e w' => e = .returned (.bool true) ∧ Below w.heap.size w w' := by
  refine (Sx.plain_calls (n := 1000) (args := [.agg [.int .i64 (.ofNat 264), .int .i64 (.ofNat 276)]]) (v := .bool true) (xs := [.agg #[.int .i64 264, .int .i64 276]]) Tryz.func70 (by kernel_rfl) (by kernel_rfl) rfl (by kernel_rfl) (by simp [Go.Sx.VRs, Go.Sx.VR]) w).mono ?_
  rintro e w' ⟨x, rfl, hb, hx⟩
  simp only [Go.Sx.VR] at hx
  exact ⟨by rw [hx], hb⟩
set_option maxRecDepth 100000 in
theorem reserved_at (z : Nat) (b : Bool) (h : Go.Sx.rchk (Go.Sx.eqV (.bool b)) (Go.Sx.call Tryz.prog Sx.fnK Sx.orcK Go.Sx.noCuts 1000 361 [.agg [.int .i64 (.ofNat 264), .int .i64 (.ofNat 276)], .int .i64 (.ofNat z)] Go.Sx.empH) = true) (w : World) :
    Calls Tryz.prog 361 #[.agg #[.int .i64 264, .int .i64 276], .int .i64 (z : Int)] w fun e w' => e = .returned (.bool b) ∧ Below w.heap.size w w' := by
  refine (Sx.plain_calls (n := 1000) (args := [.agg [.int .i64 (.ofNat 264), .int .i64 (.ofNat 276)], .int .i64 (.ofNat z)]) (v := .bool b) (xs := [.agg #[.int .i64 264, .int .i64 276], .int .i64 (z : Int)]) Tryz.func361 (by kernel_rfl) (by kernel_rfl) rfl h (by simp [Go.Sx.VRs, Go.Sx.VR]) w).mono ?_
  rintro e w' ⟨x, rfl, hb, hx⟩
  simp only [Go.Sx.VR] at hx
  exact ⟨by rw [hx], hb⟩
set_option maxRecDepth 100000 in
theorem reserved_ex (z : Int) (h0 : 264 ≤ z) (h1 : z ≤ 271) (w : World) :
    Calls Tryz.prog 361 #[.agg #[.int .i64 264, .int .i64 276], .int .i64 z] w fun e w' => e = .returned (.bool (decide (z = 271))) ∧ Below w.heap.size w w' := by
  have h : z = 264 ∨ z = 265 ∨ z = 266 ∨ z = 267 ∨ z = 268 ∨ z = 269 ∨ z = 270 ∨ z = 271 := by omega
  rcases h with rfl | rfl | rfl | rfl | rfl | rfl | rfl | rfl
  · exact reserved_at 264 false (by kernel_rfl) w
  · exact reserved_at 265 false (by kernel_rfl) w
  · exact reserved_at 266 false (by kernel_rfl) w
  · exact reserved_at 267 false (by kernel_rfl) w
  · exact reserved_at 268 false (by kernel_rfl) w
  · exact reserved_at 269 false (by kernel_rfl) w
  · exact reserved_at 270 false (by kernel_rfl) w
  · exact reserved_at 271 true (by kernel_rfl) w

set_option maxHeartbeats 6400000 in
set_option maxRecDepth 100000 in
/-- backward$1, at the example. -/
theorem back1_in (n : Nat) (hn : 2 ≤ n) (l b3 b2 B : Nat) (J Jx : List Unit → World → Prop) (W : World) (hBW : B ≤ W.heap.size)
    (hJ : AbidesFrom W.heap.size J)
    (hY : ∀ pre x W1, J pre W1 → pre.length < 1 → YieldAt Fence.wide (n - 1) Tryz.prog l #[.int .i64 271] W1 fun e W' =>
      (e = .returned (.bool true) ∧ J (pre ++ [x]) W' ∧ Below B W1 W') ∨ (e = .returned (.bool false) ∧ Jx (pre ++ [x]) W'))
    (hb2 : b2 < B) (_ : b3 < B) (hx20 : W.cell? ⟨b2, 0, none⟩ = some (.int .i64 264)) (hx21 : W.cell? ⟨b2, 1, none⟩ = some (.int .i64 276)) (hx3 : W.cell? ⟨b3, 0, none⟩ = some (.int .i64 272)) (h0 : J [] W) :
    CallsIn Fence.wide n Tryz.prog 360 #[.func (.yield l) #[] #[], .pointer (some ⟨b3, 0, none⟩), .pointer (some ⟨b2, 0, none⟩)] W fun e W' => (∃ v, e = .returned v) ∧
      ((∃ ys : List Unit, ys = [()] ∧ J ys W') ∨ (∃ pre : List Unit, pre = [()] ∧ Jx pre W')) := by
  have HY := Lib.hid hY
  have HJ := Lib.hid hJ
  have HX := Lib.hid (And.intro hx20 (And.intro hx21 hx3))
  have H0 := Lib.hid h0
  have CR := Lib.hid (fun z h0 h1 W => reserved_ex z h0 h1 W)
  clear hJ hY h0
  refine callsIn_of_wp Tryz.func360 rfl trivial ?_ rfl
  simp only [Tryz.ntmps360, List.size_toArray, List.length_cons, List.length_nil, Nat.reduceAdd, Nat.reduceSub, Array.replicate_succ, Array.replicate_zero, List.push_toArray, List.append_toArray, List.nil_append, List.cons_append]
  refine wpIn_wide.2 (wp_scope_straight ((wpIn_wide (n := n)).1 ?_))
  refine wpIn_seq (wpIn_label ?_)
  dsimp only [Exit.then]
  gi_wp2
  clear hx20 hx21 hx3
  gi_loopw [4] (fun zv wr => ∃ z : Int, zv = .int .i64 z ∧ Hid ((z = 271 ∧ J [] wr) ∨ (263 ≤ z ∧ z < 271 ∧ J [()] wr)) ∧ Hid (Below B W wr)) (fun zv _ => (intOf zv - 263).toNat)
  case atStart => exact ⟨271, rfl, Lib.hid (.inl ⟨rfl, H0.out⟩), Lib.hid (Below.refl _ _)⟩
  case round =>
    obtain ⟨z, rfl, HZ, HB⟩ := hrel
    have x20 := (HB.out.cell (p := ⟨b2, 0, none⟩) hb2).trans HX.out.1
    have x21 := (HB.out.cell (p := ⟨b2, 1, none⟩) hb2).trans HX.out.2.1
    have hszr := Nat.le_trans hBW HB.out.size
    have hwr := HB.out.size
    have hJg : ∀ pre W', J pre wr → Below wr.heap.size wr W' → J pre W' := fun pre W' hj hb => HJ.out pre _ _ none hj (Kit.grown_of_below hb) (fun r e => by cases e)
    have HJG := Lib.hid hJg
    clear hJg
    have hz3 : 263 ≤ z ∧ z ≤ 271 := by rcases HZ.out with ⟨h, _⟩ | ⟨h, h', _⟩ <;> omega
    by_cases hz : z = 271
    · subst hz
      have HJ0 : Hid (J [] wr) := Lib.hid (by rcases HZ.out with ⟨_, h⟩ | ⟨_, h, _⟩; exact h; omega)
      gi_wp2
      refine ⟨trivial, fun _ => by omega, ?_⟩
      refine (callsIn_wide.2 (CR.out 271 (by decide) (by decide) _)).mono ?_
      rintro e w2 ⟨rfl, hb⟩
      have hJ2 := HJG.out [] w2 HJ0.out hb
      have HB2 := Lib.hid (HB.out.trans (hb.mono hszr))
      have hsz2 := hb.size
      obtain ⟨fn, tmps, assign, body, hy, hR⟩ := HY.out [] () w2 hJ2 (by decide)
      clear hb x20 x21
      gi_wp2
      refine ⟨fun _ => by omega, ?_⟩
      refine hR.mono ?_
      rintro e W3 (⟨rfl, hJ3, hk3⟩ | ⟨rfl, hJx3⟩)
      · gi_wp2
        go_roundw
        case rel => exact ⟨270, by go_num, Lib.hid (.inr ⟨by decide, by decide, hJ3⟩), Lib.hid (HB2.out.trans hk3)⟩
        case measure => simp [intOf]
      · gi_wp2
        rw [Exit.noGoto_normal]
        go_end0
        exact ⟨⟨_, rfl⟩, .inr ⟨_, rfl, hJx3⟩⟩
    · have HJ1 : Hid (J [()] wr) := Lib.hid (by rcases HZ.out with ⟨h, _⟩ | ⟨_, _, h⟩; exact absurd h hz; exact h)
      by_cases hz4 : 264 ≤ z
      · have CR' := Lib.hid (CR.out z hz4 hz3.2)
        rw [decide_eq_false hz] at CR'
        have d1 : decide (264 ≤ z) = true := decide_eq_true hz4
        have hw1 := IntWalk.wrap64_in (z - 1) (by omega)
        gi_wp2
        refine ⟨trivial, fun _ => by omega, ?_⟩
        refine (callsIn_wide.2 (CR'.out _)).mono ?_
        rintro e w2 ⟨rfl, hb⟩
        have HB2 := Lib.hid (HB.out.trans (hb.mono hszr))
        have HJ2 := Lib.hid (HJG.out _ w2 HJ1.out hb)
        gi_wp2
        go_roundw
        case rel => exact ⟨z - 1, by go_num, Lib.hid (.inr ⟨by omega, by omega, HJ2.out⟩), HB2⟩
        case measure => simp [intOf]; omega
      · have d1 : decide (264 ≤ z) = false := decide_eq_false hz4
        gi_wp2
        go_end0
        exact ⟨⟨_, rfl⟩, .inl HJ1.out⟩
end Go.Proofs.YtiekfipjbmdkpaaGreatDoor

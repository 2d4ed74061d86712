/-
  The walks through volumeseq.extent, Anchor and its closure.
-/
import Derived.Test.YthkppbimkjmbnaaGreatDoorZK
import Derived.Test.YthkppbimkjmbnaaGreatDoorZM
import Derived.Test.YthkppbimkjmbnaaGreatDoorZC
namespace Go.Proofs.YthkppbimkjmbnaaGreatDoor
open Go.RowKit
open Vs (bs by_)
namespace Vs
theorem by_app (a b : ByteArray) : by_ (a ++ b) = by_ a ++ by_ b := by simp [by_, ByteArray.data_append]
theorem n4_fit {n : Int} (h0 : 0 ≤ n) (h1 : n < 4294967296) : fit n 4 = true := (fit_iff n 4).2 ⟨h0, by simpa using h1⟩
theorem n2_fit {n : Int} (h0 : 0 ≤ n) (h1 : n < 65536) : fit n 2 = true := (fit_iff n 2).2 ⟨h0, by simpa using h1⟩
/-- Fields put one after the other. -/
def fillL : List (Nat × List UInt8) → List UInt8 → List UInt8
  | [], L => L
  | p :: t, L => fillL t (L ++ z (p.1 - L.length) ++ p.2)
/-- A span's cells. -/
def spV (s c : Int) : Array Value := #[.int .i64 s, .int .i64 c]
end Vs

set_option maxHeartbeats 3200000 in
set_option maxRecDepth 100000 in
/-- extent. -/
theorem extent_any (s c : Int) (h : Vs.spanB s c = true) (w : World) : Calls Tryz.prog 47 #[.agg #[.int .i64 s, .int .i64 c]] w fun e w' => e = .returned (.string (bs (Vs.extL s c))) ∧ Below w.heap.size w w' := by
  obtain ⟨⟨h0, h1⟩, h2, h3⟩ := (Vs.spanB_iff s c).1 h
  have C1 := Lib.hid (fun W => vLittle_any (c * 2048) 4 4 rfl (by unfold Pm.Sz; omega) (Vs.n4_fit (by omega) (by omega)) W)
  have C2 := Lib.hid (fun W => vLittle_any s 4 4 rfl (by unfold Pm.Sz; omega) (Vs.n4_fit h0 h1) W)
  have HR := Lib.hid (show bs (Pm.le 4 (c * 2048).toNat) ++ bs (Pm.le 4 s.toNat) = bs (Vs.extL s c) from Vs.bs_app _ _)
  have z1 : (bs (Pm.le 4 (c * 2048).toNat)).size ≤ 4 := by rw [Vs.bs_size, Pm.le_len]; decide
  have z2 : (bs (Pm.le 4 s.toNat)).size ≤ 4 := by rw [Vs.bs_size, Pm.le_len]; decide
  generalize bs (Pm.le 4 (c * 2048).toNat) = b1 at *
  generalize bs (Pm.le 4 s.toNat) = b2 at *
  generalize bs (Vs.extL s c) = r at *
  have HB := Lib.hid ((Below.refl w.heap.size w).alloc (Nat.le_refl _) (.cells #[.int .i64 s, .int .i64 c] 23))
  have hbx : ∀ j, (w.alloc (.cells #[.int .i64 s, .int .i64 c] 23)).cell? ⟨w.heap.size, j, none⟩ = (#[.int .i64 s, .int .i64 c] : Array Value)[j]? := fun j => cell_of_row _ _ _ _ _ _ (heap_alloc_new w _)
  have y0 := fun x : Later (w.heap.size + 1) (w.alloc (.cells #[.int .i64 s, .int .i64 c] 23)) => later_cell x (by omega) (hbx 0)
  have y1 := fun x : Later (w.heap.size + 1) (w.alloc (.cells #[.int .i64 s, .int .i64 c] 23)) => later_cell x (by omega) (hbx 1)
  have HSZ := Lib.hid (show (w.alloc (.cells #[.int .i64 s, .int .i64 c] 23)).heap.size = w.heap.size + 1 by simp)
  clear hbx
  go_enter Tryz.func47, Tryz.ntmps47
  go_wp2_with fail
  refine wp_region_later (w.heap.size + 1) (by kernel_rfl) (by kernel_rfl) ?_
  repeat (any_goals (first | go_big_quiet_skip | (go_big_quiet_want; go_big_quiet_op; first | go_big_quiet_on | (apply Exists.intro; refine ⟨fun _ => ?_, ?_⟩; (first | (with_reducible refine Calls.later_of ?_ (C1.out _); simp) | (with_reducible refine Calls.later_of ?_ (C2.out _); simp)); go_big_quiet_on))))
  refine wpQuiet_nil ?_
  intro wq hw'
  obtain ⟨⟨wz, hbq⟩, hw''⟩ := hw'
  subst hw''
  have HBZ := Lib.hid (HB.out.trans (hbq.mono (by omega)))
  clear y0 y1 hbq
  go_wp2_with fail
  go_ret
  rw [HR.out]
  exact ⟨rfl, HBZ.out⟩

set_option maxHeartbeats 3200000 in
set_option maxRecDepth 100000 in
/-- Anchor$1. -/
theorem anchorFill_any (w : World) (mb rb : Nat) (ms mc rs rc : Int) (hm : Vs.spanB ms mc = true) (hr : Vs.spanB rs rc = true) (h1 : w.heap[mb]? = some (.cells #[.int .i64 ms, .int .i64 mc] 23 (0, 0))) (h2 : w.heap[rb]? = some (.cells #[.int .i64 rs, .int .i64 rc] 23 (0, 0))) :
    Vs.Fills 46 #[.pointer (some ⟨mb, 0, none⟩), .pointer (some ⟨rb, 0, none⟩)] w (Vs.fillL [(16, Vs.extL ms mc ++ Vs.extL rs rc)] []) := by
  refine ⟨enters_of Tryz.func46 (by kernel_rfl) rfl, fun W ob hb hob hI => ?_⟩
  have C1 := Lib.hid (fun W => extent_any ms mc hm W)
  have C2 := Lib.hid (fun W => extent_any rs rc hr W)
  have k1 : mb < w.heap.size := (Array.getElem?_eq_some_iff.1 h1).1
  have k2 : rb < w.heap.size := (Array.getElem?_eq_some_iff.1 h2).1
  have hsz := hb.size
  have hlt := hI.lt
  have g1 : ∀ j, W.cell? ⟨mb, j, none⟩ = (#[.int .i64 ms, .int .i64 mc] : Array Value)[j]? := fun j => cell_of_row _ _ _ _ _ _ ((hb.block mb k1).trans h1)
  have g2 : ∀ j, W.cell? ⟨rb, j, none⟩ = (#[.int .i64 rs, .int .i64 rc] : Array Value)[j]? := fun j => cell_of_row _ _ _ _ _ _ ((hb.block rb k2).trans h2)
  have y0 := fun x : Later W.heap.size W => later_cell x (by omega) (g1 0)
  have y1 := fun x : Later W.heap.size W => later_cell x (by omega) (g1 1)
  have y2 := fun x : Later W.heap.size W => later_cell x (by omega) (g2 0)
  have y3 := fun x : Later W.heap.size W => later_cell x (by omega) (g2 1)
  have HF := Lib.hid (show by_ (bs (Vs.extL ms mc) ++ bs (Vs.extL rs rc)) = Vs.extL ms mc ++ Vs.extL rs rc by rw [Vs.by_app]; rfl)
  have z1 : (bs (Vs.extL ms mc)).size ≤ 8 := by rw [Vs.bs_size, Vs.extL_len]; decide
  have z2 : (bs (Vs.extL rs rc)).size ≤ 8 := by rw [Vs.bs_size, Vs.extL_len]; decide
  generalize bs (Vs.extL ms mc) = r1 at *
  generalize bs (Vs.extL rs rc) = r2 at *
  have HI := Lib.hid hI
  have HB := Lib.hid (show ob < W.heap.size from hlt)
  clear hb hI h1 h2 hsz k1 k2 g1 g2 hm hr hlt hob
  unfold Vs.putV
  show Calls _ _ #[_, _, _] _ _
  go_enter Tryz.func46, Tryz.ntmps46
  go_wp2_with fail
  refine Rt.tail (C := fun w' => ∃ x : Later W.heap.size W, w' = x.to) 6 _ rfl (by kernel_rfl) (by kernel_rfl) (by kernel_rfl) rfl (by kernel_rfl) ⟨⟨W.drewN 1, Kit.below_drewN 1⟩, rfl⟩ ?_
  simp only [List.take_succ_cons, List.take_zero]
  repeat (any_goals (first | go_big_quiet_skip | (go_big_quiet_want; go_big_quiet_op; first | go_big_quiet_on | (apply Exists.intro; refine ⟨fun _ => ?_, ?_⟩; (first | (with_reducible refine Calls.later_of ?_ (C1.out _); exact Nat.le_refl _) | (with_reducible refine Calls.later_of ?_ (C2.out _); exact Nat.le_refl _)); go_big_quiet_on))))
  refine wpQuiet_nil ?_
  intro wq hw'
  obtain ⟨⟨wz, hbq⟩, hw''⟩ := hw'
  subst hw''
  have HIQ := Lib.hid (HI.out.below hbq HB.out)
  have HBQ := Lib.hid (hbq.mono (Nat.le_of_lt HB.out))
  clear hbq y0 y1 y2 y3
  go_wp2_with fail
  refine (put_any ob 16 16 rfl _ [] _ HIQ.out (by decide) (by simp) (by rw [ByteArray.size_append]; omega)).mono ?_
  rintro e w4 ⟨rfl, hI4, hb4⟩
  have HI4 := Lib.hid hI4
  have HB4 := Lib.hid (HBQ.out.trans hb4)
  clear hI4 hb4
  go_wp2_with fail
  go_end0
  refine ⟨rfl, ?_, HB4.out⟩
  have h := HI4.out
  rw [HF.out] at h
  exact h

set_option maxHeartbeats 3200000 in
set_option maxRecDepth 100000 in
/-- Anchor. -/
theorem vAnchor_any (loc ms mc rs rc : Int) (w : World) : Calls Tryz.prog 12 #[.int .i64 loc, .agg #[.int .i64 ms, .int .i64 mc], .agg #[.int .i64 rs, .int .i64 rc]] w fun e w' => e = .returned (.tuple #[.string (bs (Vs.anchorR loc ms mc rs rc).1), .int .i64 (Vs.anchorR loc ms mc rs rc).2]) ∧ Below w.heap.size w w' := by
  have CW := Lib.hid (fun W => word_any loc W)
  have CM := Lib.hid (fun W => span_any ms mc W)
  have CR := Lib.hid (fun W => span_any rs rc W)
  have HR := Lib.hid (show Vs.anchorR loc ms mc rs rc = if Vs.word loc = true then (if (Vs.spanB ms mc && Vs.spanB rs rc) = true then (Vs.blk 2 1 loc.toNat (Vs.ancL ms mc rs rc), 0) else ([], 1)) else ([], 2) from rfl)
  have HB0 := Lib.hid (((Below.refl w.heap.size w).alloc (Nat.le_refl _) (.cells #[.int .i64 ms, .int .i64 mc] 23)).alloc (by simp) (.cells #[.int .i64 rs, .int .i64 rc] 23))
  have HN1 := Lib.hid (heap_alloc2_old w (.cells #[.int .i64 ms, .int .i64 mc] 23) (.cells #[.int .i64 rs, .int .i64 rc] 23))
  have HN2 := Lib.hid (heap_alloc2_new w (.cells #[.int .i64 ms, .int .i64 mc] 23) (.cells #[.int .i64 rs, .int .i64 rc] 23))
  cases hw : Vs.word loc with
  | false =>
    rw [hw] at CW
    have HR2 := Lib.hid (HR.out.trans (if_neg (by rw [hw]; decide)))
    rw [HR2.out]
    clear hw HR HR2
    go_enter Tryz.func12, Tryz.ntmps12
    go_wp2_with fail
    with_reducible refine (CW.out _).mono ?_
    rintro e w2 ⟨rfl, hw2⟩
    subst hw2
    go_wp2_with fail
    go_ret2
    exact ⟨rfl, HB0.out⟩
  | true =>
  rw [hw] at CW
  have HR1 := Lib.hid (HR.out.trans (if_pos (by rw [hw])))
  clear HR
  cases hm : Vs.spanB ms mc with
  | false =>
    rw [hm] at CM
    have HR2 := Lib.hid (HR1.out.trans (if_neg (by rw [hm]; simp)))
    rw [HR2.out]
    clear hw HR1 HR2 hm
    go_enter Tryz.func12, Tryz.ntmps12
    go_wp2_with fail
    with_reducible refine (CW.out _).mono ?_
    rintro e w2 ⟨rfl, hw2⟩
    subst hw2
    have ca := cell_of_row _ _ 0 _ _ _ HN1.out
    have cb := cell_of_row _ _ 1 _ _ _ HN1.out
    simp only [List.getElem?_toArray, List.getElem?_cons_zero, List.getElem?_cons_succ] at ca cb
    go_wp2_with fail
    with_reducible refine (CM.out _).mono ?_
    rintro e w2 ⟨rfl, hb2⟩
    have HB2 := Lib.hid (HB0.out.trans (hb2.mono HB0.out.size))
    clear hb2 ca cb
    go_wp2_with fail
    go_ret2
    exact ⟨rfl, HB2.out⟩
  | true =>
  rw [hm] at CM
  cases hr : Vs.spanB rs rc with
  | false =>
    rw [hr] at CR
    have HR2 := Lib.hid (HR1.out.trans (if_neg (by rw [hr]; simp)))
    rw [HR2.out]
    clear hw HR1 HR2 hm hr
    go_enter Tryz.func12, Tryz.ntmps12
    go_wp2_with fail
    with_reducible refine (CW.out _).mono ?_
    rintro e w2 ⟨rfl, hw2⟩
    subst hw2
    have ca := cell_of_row _ _ 0 _ _ _ HN1.out
    have cb := cell_of_row _ _ 1 _ _ _ HN1.out
    simp only [List.getElem?_toArray, List.getElem?_cons_zero, List.getElem?_cons_succ] at ca cb
    go_wp2_with fail
    with_reducible refine (CM.out _).mono ?_
    rintro e w2 ⟨rfl, hb2⟩
    have HB2 := Lib.hid (HB0.out.trans (hb2.mono HB0.out.size))
    have hn2 := (hb2.block (w.heap.size + 1) (by simp)).trans HN2.out
    have cc := cell_of_row _ _ 0 _ _ _ hn2
    have cd := cell_of_row _ _ 1 _ _ _ hn2
    simp only [List.getElem?_toArray, List.getElem?_cons_zero, List.getElem?_cons_succ] at cc cd
    clear hb2 ca cb hn2
    go_wp2_with fail
    with_reducible refine (CR.out _).mono ?_
    rintro e w3 ⟨rfl, hb3⟩
    have HB3 := Lib.hid (HB2.out.trans (hb3.mono HB2.out.size))
    clear hb3 cc cd
    go_wp2_with fail
    go_ret2
    exact ⟨rfl, HB3.out⟩
  | true =>
  rw [hr] at CR
  have HR2 := Lib.hid (HR1.out.trans (if_pos (by rw [hm, hr]; rfl)))
  have hwl := (Vs.word_iff loc).1 hw
  obtain ⟨L, hL⟩ : ∃ L : Nat, loc = L := ⟨loc.toNat, by omega⟩
  have HBL := Lib.hid (show Vs.bodyL (Vs.fillL [(16, Vs.extL ms mc ++ Vs.extL rs rc)] []) 496 = Vs.ancL ms mc rs rc from by
    have e : Vs.fillL [(16, Vs.extL ms mc ++ Vs.extL rs rc)] [] = Vs.z 16 ++ (Vs.extL ms mc ++ Vs.extL rs rc) := rfl
    have e2 : (Vs.z 16 ++ (Vs.extL ms mc ++ Vs.extL rs rc)).length = 32 := by simp [Vs.z_len, Vs.extL_len]
    unfold Vs.bodyL
    rw [e, e2, show (2048 - 32 : Nat) = 480 + 1536 from rfl, ← Vs.z_add]
    unfold Vs.ancL Vs.extL
    simp only [List.append_assoc]
    exact Vs.sk (Vs.z_len 16) rfl (Vs.sl_mid (p := []) (m := Vs.n4 (mc * 2048) ++ (Vs.n4 ms ++ (Vs.n4 (rc * 2048) ++ (Vs.n4 rs ++ Vs.z 480)))) (q := Vs.z 1536) (by simp only [List.nil_append, List.append_assoc]) rfl (by simp [Vs.n4_len, Vs.z_len])))
  have CB := Lib.hid (fun W bl (hbl : bl = Vs.ancL ms mc rs rc) => block_any 2 1 loc (bs bl) W (by rw [hbl, Vs.bs_size, Vs.ancL_len]; decide))
  have HBB := Lib.hid (show Vs.blockR 2 1 loc (Vs.ancL ms mc rs rc) = (Vs.blk 2 1 loc.toNat (Vs.ancL ms mc rs rc), 0) from by
    rw [hL, Int.toNat_natCast]
    exact Vs.blockR_ok (id := 2) (ser := 1) (by decide) (by decide) (by omega) (by rw [Vs.ancL_len]; decide))
  rw [HR2.out]
  have HF := Lib.hid (fun W h1 h2 => anchorFill_any W w.heap.size (w.heap.size + 1) ms mc rs rc hm hr h1 h2)
  clear hw hm hr HR1 HR2 hL hwl
  go_enter Tryz.func12, Tryz.ntmps12
  go_wp2_with fail
  with_reducible refine (CW.out _).mono ?_
  rintro e w2 ⟨rfl, hw2⟩
  subst hw2
  have ca := cell_of_row _ _ 0 _ _ _ HN1.out
  have cb := cell_of_row _ _ 1 _ _ _ HN1.out
  simp only [List.getElem?_toArray, List.getElem?_cons_zero, List.getElem?_cons_succ] at ca cb
  go_wp2_with fail
  with_reducible refine (CM.out _).mono ?_
  rintro e w2 ⟨rfl, hb2⟩
  have HB2 := Lib.hid (HB0.out.trans (hb2.mono HB0.out.size))
  have HM2 := Lib.hid ((hb2.block w.heap.size (by simp; omega)).trans HN1.out)
  have hn2 := (hb2.block (w.heap.size + 1) (by simp)).trans HN2.out
  have HN3 := Lib.hid hn2
  have cc := cell_of_row _ _ 0 _ _ _ hn2
  have cd := cell_of_row _ _ 1 _ _ _ hn2
  simp only [List.getElem?_toArray, List.getElem?_cons_zero, List.getElem?_cons_succ] at cc cd
  have hs2 := hb2.size
  simp only [World.size_alloc] at hs2
  clear hb2 ca cb hn2
  go_wp2_with fail
  with_reducible refine (CR.out _).mono ?_
  rintro e w3 ⟨rfl, hb3⟩
  have HB3 := Lib.hid (HB2.out.trans (hb3.mono HB2.out.size))
  have HFF := Lib.hid (HF.out w3 ((hb3.block _ (by omega)).trans HM2.out) ((hb3.block _ (by omega)).trans HN3.out))
  clear hb3 cc cd HM2 HN3 HF
  go_wp2_with fail
  refine (body_any 496 496 rfl _ _ _ _ HFF.out (by decide)).mono ?_
  rintro e w4 ⟨rfl, hb4⟩
  have HB4 := Lib.hid (HB3.out.trans (hb4.mono HB3.out.size))
  clear hb4 HFF
  rw [HBL.out]
  go_wp2_with fail
  refine (CB.out _ _ rfl).mono ?_
  rintro e w5 ⟨rfl, hb5⟩
  have HB5 := Lib.hid (HB4.out.trans (hb5.mono HB4.out.size))
  clear hb5
  rw [Vs.by_bs, HBB.out]
  go_wp2_with fail
  go_ret2
  exact ⟨rfl, HB5.out⟩
end Go.Proofs.YthkppbimkjmbnaaGreatDoor

/-
  The walks through allocation.EncodeLong of one extent, to the byte, and volumeseq.long.
-/
namespace Go.Proofs.YthkppbimkjmbnaaGreatDoor
open Go.RowKit
open Vs (bs by_)
namespace Vs
theorem extOne (W : World) (x : Pm.X) (g : Nat) (hg : g = W.heap.size) : Pm.ExtsAt (W.alloc (.cells #[.int .i64 x.kind, .int .i64 x.length, .int .i64 x.block, .int .i64 x.part] 44)) (.slice (some ⟨g, 0, none⟩) 1 1) [x] := by
  subst hg
  refine ⟨some ⟨W.heap.size, 0, none⟩, 1, rfl, Nat.le_refl _, by decide, fun _ => ⟨W.heap.size, 0, rfl, by simp, fun j hj k u hu => ?_⟩⟩
  have hj0 : j = 0 := by simpa using hj
  subst hj0
  simp only [Nat.zero_mul, Nat.zero_add]
  rw [World.cell?_alloc_at _ _ _ _ (by simp)]
  simpa [Pm.exC] using hu
theorem formed_x (x : Pm.X) : Pm.formed1 x = formed x.kind x.length x.block x.part := by
  rw [Bool.eq_iff_iff, Pm.formed1_iff, formed_iff]
end Vs

set_option maxHeartbeats 3200000 in
set_option maxRecDepth 100000 in
/-- allocation.encode, of one extent, to the byte. -/
theorem encodeOne_x (v : Value) (x : Pm.X) (w : World) (hm : Pm.ExtsAt w v [x]) (hx : Pm.formed1 x = true) :
    Calls Tryz.prog 191 #[v, .func (.func 192) #[] #[]] w fun e w' => e = .returned (.string (bs (Vs.longL x.kind x.length x.block x.part))) ∧ Below w.heap.size w w' := by
  have hx := (Pm.formed1_iff x).1 hx
  obtain ⟨A, c, rfl, hlc, hcm, hcells⟩ := hm.row
  obtain ⟨bl, o, rfl, hbl, hc⟩ := hcells (by simp)
  have hcc := hc 0 (by simp)
  have CR := Lib.hid (fun W => restLong_any x W)
  clear hc hcells hm
  have hcc := Lib.hid hcc
  unfold Pm.exV at CR
  obtain ⟨k, n, b, p⟩ := x
  simp only [List.getD_cons_zero] at *
  obtain ⟨x1, x2, x3, x4, x5, x6, x7, x8⟩ := hx
  have C1 := Lib.hid (fun W => aLittle_k (n + 1073741824 * k) 4 4 rfl (by unfold Pm.Sz; omega) W)
  have C2 := Lib.hid (fun W => aLittle_k b 4 4 rfl (by unfold Pm.Sz; omega) W)
  rw [Vs.leR_fit (Vs.n4_fit (by omega) (by omega))] at C1
  rw [Vs.leR_fit (Vs.n4_fit (by omega) (by omega))] at C2
  rw [Vs.leR_fit (Vs.n2_fit (by omega) (by omega)), Vs.leR_fit (show Vs.fit 0 6 = true by decide), show Pm.le 6 (0 : Int).toNat = Vs.z 6 from rfl] at CR
  have HS := Lib.hid (show (⟨#[]⟩ : ByteArray) ++ ((⟨(Pm.le 4 (n + 1073741824 * k).toNat).toArray⟩ : ByteArray) ++ (⟨(Pm.le 4 b.toNat).toArray⟩ : ByteArray) ++ ((⟨(Pm.le 2 p.toNat).toArray⟩ : ByteArray) ++ (⟨(Vs.z 6).toArray⟩ : ByteArray))) = bs (Vs.longL k n b p) by
    show bs [] ++ (bs (Pm.le 4 (n + 1073741824 * k).toNat) ++ bs (Pm.le 4 b.toNat) ++ (bs (Pm.le 2 p.toNat) ++ bs (Vs.z 6))) = _
    rw [Vs.bs_app, Vs.bs_app, Vs.bs_app, Vs.bs_app]
    refine congrArg bs ?_
    unfold Vs.longL Vs.n4 Vs.n2
    simp only [List.append_assoc, List.nil_append])
  have z3 : (⟨(Pm.le 2 p.toNat).toArray⟩ ++ ⟨(Vs.z 6).toArray⟩ : ByteArray).size ≤ 8 := by
    rw [Kit.append_mk]
    show ((Pm.le 2 p.toNat ++ Vs.z 6).toArray).size ≤ 8
    rw [List.size_toArray, List.length_append, Pm.le_len, Vs.z_len]
    decide
  have z1 : (⟨(Pm.le 4 (n + 1073741824 * k).toNat).toArray⟩ : ByteArray).size ≤ 4 := by
    show ((Pm.le 4 (n + 1073741824 * k).toNat).toArray).size ≤ 4
    rw [List.size_toArray, Pm.le_len]
    decide
  have z2 : (⟨(Pm.le 4 b.toNat).toArray⟩ : ByteArray).size ≤ 4 := by
    show ((Pm.le 4 b.toNat).toArray).size ≤ 4
    rw [List.size_toArray, Pm.le_len]
    decide
  have z4 : (bs (Vs.longL k n b p)).size ≤ 16 := by rw [Vs.bs_size, Vs.longL_len]; decide
  generalize (⟨(Pm.le 2 p.toNat).toArray⟩ ++ ⟨(Vs.z 6).toArray⟩ : ByteArray) = s3 at *
  generalize (⟨(Pm.le 4 (n + 1073741824 * k).toNat).toArray⟩ : ByteArray) = l1 at *
  generalize (⟨(Pm.le 4 b.toNat).toArray⟩ : ByteArray) = l2 at *
  generalize bs (Vs.longL k n b p) = R at *
  simp only [List.length_cons, List.length_nil, Nat.zero_add] at *
  go_enter Tryz.func191, Tryz.ntmps191
  go_wp2_with fail
  go_loopw [5, 7, 10] (fun sv _ iv wr => ((iv = .int .i64 ((0 : Nat) : Int) ∧ sv = .string ⟨#[]⟩) ∨ (iv = .int .i64 ((1 : Nat) : Int) ∧ sv = .string R)) ∧ Below w.heap.size w wr) (fun _ _ iv _ => 1 - (intOf iv).toNat)
  case atStart => exact ⟨.inl ⟨rfl, rfl⟩, Below.refl _ _⟩
  case round =>
    obtain ⟨(⟨rfl, rfl⟩ | ⟨rfl, rfl⟩), hbw⟩ := hrel
    · obtain ⟨c0, c1, c2, c3⟩ := Pm.four (x := ⟨k, n, b, p⟩) (j := 0) hbl hbw hcc.out
      simp only [Nat.zero_mul, Nat.add_zero] at c0 c1 c2 c3
      have HBW := Lib.hid (hbw.alloc hbw.size (.cells #[.int .i64 k, .int .i64 n, .int .i64 b, .int .i64 p] 44))
      have hnew := fun (q : Nat) (u : Value) (h : (#[.int .i64 k, .int .i64 n, .int .i64 b, .int .i64 p] : Array Value)[q]? = some u) => (show (wr.alloc (.cells #[.int .i64 k, .int .i64 n, .int .i64 b, .int .i64 p] 44)).cell? ⟨wr.heap.size, q, none⟩ = some u by rw [World.cell?_alloc_at _ _ _ _ (by simp)]; simpa using h)
      have hlw : wr.heap.size < (wr.alloc (.cells #[.int .i64 k, .int .i64 n, .int .i64 b, .int .i64 p] 44)).heap.size := by simp
      have y0 := fun x : Later (wr.alloc (.cells #[.int .i64 k, .int .i64 n, .int .i64 b, .int .i64 p] 44)).heap.size (wr.alloc (.cells #[.int .i64 k, .int .i64 n, .int .i64 b, .int .i64 p] 44)) => later_cell x hlw (hnew 0 _ rfl)
      have y1 := fun x : Later (wr.alloc (.cells #[.int .i64 k, .int .i64 n, .int .i64 b, .int .i64 p] 44)).heap.size (wr.alloc (.cells #[.int .i64 k, .int .i64 n, .int .i64 b, .int .i64 p] 44)) => later_cell x hlw (hnew 1 _ rfl)
      have y2 := fun x : Later (wr.alloc (.cells #[.int .i64 k, .int .i64 n, .int .i64 b, .int .i64 p] 44)).heap.size (wr.alloc (.cells #[.int .i64 k, .int .i64 n, .int .i64 b, .int .i64 p] 44)) => later_cell x hlw (hnew 2 _ rfl)
      have y3 := fun x : Later (wr.alloc (.cells #[.int .i64 k, .int .i64 n, .int .i64 b, .int .i64 p] 44)).heap.size (wr.alloc (.cells #[.int .i64 k, .int .i64 n, .int .i64 b, .int .i64 p] 44)) => later_cell x hlw (hnew 3 _ rfl)
      have hw1 : IntKind.i64.wrap (1073741824 * k) = 1073741824 * k := IntWalk.i64_in _ (by omega)
      have hw2 : IntKind.i64.wrap (n + 1073741824 * k) = n + 1073741824 * k := IntWalk.i64_in _ (by omega)
      clear hnew hlw
      go_wp2_with fail
      refine wp_region_later (wr.alloc (.cells #[.int .i64 k, .int .i64 n, .int .i64 b, .int .i64 p] 44)).heap.size (by kernel_rfl) (by kernel_rfl) ?_
      repeat (any_goals (first | go_big_quiet_skip | (go_big_quiet_want; go_big_quiet_op; first | go_big_quiet_on | (apply Exists.intro; refine ⟨fun _ => ?_, ?_⟩; (first | (with_reducible refine Calls.later_of ?_ (C1.out _); simp) | (with_reducible refine Calls.later_of ?_ (C2.out _); simp) | (with_reducible refine Calls.later_of ?_ (CR.out _); simp)); go_big_quiet_on))))
      refine wpQuiet_nil ?_
      intro wq hw'
      obtain ⟨⟨wz, hbq⟩, hw''⟩ := hw'
      subst hw''
      clear y0 y1 y2 y3
      go_wp2_with fail
      go_roundw
      case rel => exact ⟨.inr ⟨by go_num, by rw [HS.out]⟩, HBW.out.trans (hbq.mono HBW.out.size)⟩
      case measure => simp [intOf]
    · go_wp2_with fail
      go_ret
      exact ⟨rfl, hbw⟩

set_option maxHeartbeats 1600000 in
set_option maxRecDepth 100000 in
/-- allocation.EncodeLong, of one extent, to the byte. -/
theorem encodeLong_x (v : Value) (x : Pm.X) (w : World) (hm : Pm.ExtsAt w v [x]) (hx : Pm.formed1 x = true) :
    Calls Tryz.prog 126 #[v] w fun e w' => e = .returned (.tuple #[.string (bs (Vs.longL x.kind x.length x.block x.part)), .int .i64 0]) ∧ Below w.heap.size w w' := by
  have CF := Lib.hid (fun W h => formed_any v [x] W h)
  have hfx : Pm.formed [x] = Pm.formed1 x := by simp [Pm.formed]
  rw [hfx, hx] at CF
  have HM := Lib.hid hm
  obtain ⟨A, c, rfl, _, _, _⟩ := hm.row
  have CE := Lib.hid (fun W h => encodeOne_x (.slice A 1 c) x W h hx)
  clear hm hfx hx
  generalize bs (Vs.longL x.kind x.length x.block x.part) = R at *
  go_enter Tryz.func126, Tryz.ntmps126
  go_wp2_with fail
  refine (CF.out _ HM.out).mono ?_
  rintro e w2 ⟨rfl, hb2⟩
  go_wp2_with fail
  refine (CE.out _ (HM.out.below hb2)).mono ?_
  rintro e w3 ⟨rfl, hb3⟩
  go_wp2_with fail
  go_ret2
  exact ⟨rfl, hb2.trans (hb3.mono hb2.size)⟩

set_option maxHeartbeats 1600000 in
set_option maxRecDepth 100000 in
/-- volumeseq.long. -/
theorem vLong_any (x : Pm.X) (w : World) (hx : Pm.formed1 x = true) :
    Calls Tryz.prog 73 #[Pm.exV x] w fun e w' => e = .returned (.string (bs (Vs.longL x.kind x.length x.block x.part))) ∧ Below w.heap.size w w' := by
  have CE := Lib.hid (fun W v h => encodeLong_x v x W h hx)
  have HX := Lib.hid (fun W g hg => Vs.extOne W x g hg)
  unfold Pm.exV
  clear hx
  generalize bs (Vs.longL x.kind x.length x.block x.part) = R at *
  obtain ⟨k, n, b, p⟩ := x
  simp only [] at *
  go_enter Tryz.func73, Tryz.ntmps73
  go_wp2_with fail
  with_reducible refine (CE.out _ _ (HX.out (w.alloc (.cells #[.int .i64 k, .int .i64 n, .int .i64 b, .int .i64 p] 44)) (w.heap.size + 1) (by simp))).mono ?_
  rintro e w2 ⟨rfl, hb2⟩
  go_wp2_with fail
  go_ret
  exact ⟨rfl, (((Below.refl w.heap.size w).alloc (Nat.le_refl _) _).alloc (by simp) _).trans (hb2.mono (by simp; omega))⟩
end Go.Proofs.YthkppbimkjmbnaaGreatDoor

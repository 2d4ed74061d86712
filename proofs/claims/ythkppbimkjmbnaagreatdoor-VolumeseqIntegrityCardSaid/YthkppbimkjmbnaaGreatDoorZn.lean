/-
  The walk through volumeseq.ParseFileSet.
-/
import Derived.Test.YthkppbimkjmbnaaGreatDoorZh
import Derived.Test.YthkppbimkjmbnaaGreatDoorZX
import Derived.Test.YthkppbimkjmbnaaGreatDoorZd
import Derived.Test.YthkppbimkjmbnaaGreatDoorZk
import Derived.Test.YthkppbimkjmbnaaGreatDoorZm
import Derived.Test.YthkppbimkjmbnaaGreatDoorZK
import Derived.Test.YthkppbimkjmbnaaGreatDoorZc
namespace Go.Proofs.YthkppbimkjmbnaaGreatDoor
open Go.RowKit
open Vs (bs by_)
namespace Vs
theorem row5 {W : World} {g : Nat} {a b c d e : Value} {t : TypeId} (h : W.heap[g]? = some (.cells #[a, b, c, d, e] t (0, 0))) (u0 u1 u2 u3 u4 : Value) : (((((W.setCell ⟨g, 0, none⟩ u0).setCell ⟨g, 1, none⟩ u1).setCell ⟨g, 2, none⟩ u2).setCell ⟨g, 3, none⟩ u3).setCell ⟨g, 4, none⟩ u4).heap[g]? = some (.cells #[u0, u1, u2, u3, u4] t (0, 0)) :=
  heap_setCell_same _ _ 4 _ _ _ (heap_setCell_same _ _ 3 _ _ _ (heap_setCell_same _ _ 2 _ _ _ (heap_setCell_same _ _ 1 _ _ _ (heap_setCell_same _ _ 0 _ _ _ h))))
theorem below5 {b : Nat} {w W : World} {g : Nat} (h : Below b w W) (hg : b ≤ g) (u0 u1 u2 u3 u4 : Value) : Below b w (((((W.setCell ⟨g, 0, none⟩ u0).setCell ⟨g, 1, none⟩ u1).setCell ⟨g, 2, none⟩ u2).setCell ⟨g, 3, none⟩ u3).setCell ⟨g, 4, none⟩ u4) :=
  ((((h.setCell (p := ⟨g, 0, none⟩) hg _).setCell (p := ⟨g, 1, none⟩) hg _).setCell (p := ⟨g, 2, none⟩) hg _).setCell (p := ⟨g, 3, none⟩) hg _).setCell (p := ⟨g, 4, none⟩) hg _
end Vs

set_option maxHeartbeats 6400000 in
set_option maxRecDepth 100000 in
/-- ParseFileSet, of a string that is no file set descriptor's block. -/
theorem vParseFileSet_no (s : ByteArray) (loc : Int) (w : World) (hs : s.size ≤ 9223372036854775807) (hi : Vs.isB (by_ s) 256 loc = false) :
    Calls Tryz.prog 34 #[.string s, .int .i64 loc] w fun e w' => e = .returned (.tuple #[.agg (Vs.fsC (Vs.pfsR (by_ s) loc).1), .int .i64 (Vs.pfsR (by_ s) loc).2]) ∧ Below w.heap.size w w' := by
  have CI := Lib.hid (fun W => vIs_any s 256 loc W hs)
  rw [hi] at CI
  have HR := Lib.hid (show Vs.pfsR (by_ s) loc = (Vs.f0, 10) from if_neg (by rw [hi]; decide))
  have HB := Lib.hid ((Below.refl w.heap.size w).alloc (Nat.le_refl _) (.cells #[.int .i64 0, .int .i64 0, .string ⟨#[]⟩, .int .i64 0, .int .i64 0] 65))
  have HN := Lib.hid (heap_alloc_new w (.cells #[.int .i64 0, .int .i64 0, .string ⟨#[]⟩, .int .i64 0, .int .i64 0] 65))
  rw [HR.out]
  unfold Vs.fsC Vs.f0
  simp only []
  clear hi HR
  go_enter Tryz.func34, Tryz.ntmps34
  go_wp2_with fail
  with_reducible refine (CI.out _).mono ?_
  rintro e w2 ⟨rfl, hb2⟩
  have HB2 := Lib.hid (HB.out.trans (hb2.mono HB.out.size))
  have HN2 := Lib.hid ((hb2.block w.heap.size (by simp)).trans HN.out)
  clear hb2
  have c0 := cell_of_row _ _ 0 _ _ _ HN2.out
  have c1 := cell_of_row _ _ 1 _ _ _ HN2.out
  have c2 := cell_of_row _ _ 2 _ _ _ HN2.out
  have c3 := cell_of_row _ _ 3 _ _ _ HN2.out
  have c4 := cell_of_row _ _ 4 _ _ _ HN2.out
  have hfj := fun j => frozen_of_row _ _ j _ _ HN2.out
  simp only [List.getElem?_toArray, List.getElem?_cons_zero, List.getElem?_cons_succ] at c0 c1 c2 c3 c4
  go_wp2_with fail
  exact bodyPost_ret (v := .tuple #[.agg #[.int .i64 0, .int .i64 0, .string ⟨#[]⟩, .int .i64 0, .int .i64 0], .int .i64 10]) (res_ct rfl _ _ w.heap.size 65 #[.int .i64 0, .int .i64 0, .string ⟨#[]⟩, .int .i64 0, .int .i64 0] (0, 0) _ rfl (Vs.row5 HN2.out _ _ _ _ _) Tryz.underlying65 rfl (by kernel_rfl) _ rfl) rfl ⟨rfl, Vs.below5 HB2.out (Nat.le_refl _) _ _ _ _ _⟩

set_option maxHeartbeats 12800000 in
set_option maxRecDepth 100000 in
/-- ParseFileSet, of a file set descriptor's block. -/
theorem vParseFileSet_yes (s : ByteArray) (loc : Int) (w : World) (hT : Lib.Utf8Tabs 1 2 w) (hs : s.size ≤ 9223372036854775807) (hi : Vs.isB (by_ s) 256 loc = true) :
    Calls Tryz.prog 34 #[.string s, .int .i64 loc] w fun e w' => e = .returned (.tuple #[.agg (Vs.fsC (Vs.pfsR (by_ s) loc).1), .int .i64 (Vs.pfsR (by_ s) loc).2]) ∧ Below w.heap.size w w' := by
  have CI := Lib.hid (fun W => vIs_any s 256 loc W hs)
  rw [hi] at CI
  have hsz : s.size = 2048 := by have := Vs.isB_len hi; rwa [Vs.by_len] at this
  obtain ⟨x1, e1⟩ : ∃ x, s.extract 16 28 = x := ⟨_, rfl⟩
  obtain ⟨x2, e2⟩ : ∃ x, s.extract 112 240 = x := ⟨_, rfl⟩
  have b1 : by_ x1 = Vs.sl (by_ s) 16 12 := by rw [← e1, Vs.bs_ext]; rfl
  have b2 : by_ x2 = Vs.sl (by_ s) 112 128 := by rw [← e2, Vs.bs_ext]; rfl
  have z1 : x1.size ≤ 2048 := by rw [← e1, ByteArray.size_extract]; omega
  have z2 : x2.size ≤ 2048 := by rw [← e2, ByteArray.size_extract]; omega
  have CP := Lib.hid (fun W => (show Calls Tryz.prog 107 #[.string x2] W fun e w' => e = .returned (.tuple #[.string (bs (Cs.parseR (by_ x2)).1), .int .i64 (Cs.parseR (by_ x2)).2]) ∧ Below W.heap.size W w' from parse_any x2 W (by omega)))
  have CR := Lib.hid (fun W => readStamp_any x1 W (by omega))
  have hpl := Vs.parse_le (by_ x2)
  rw [Vs.by_len] at hpl
  rw [b2] at CP hpl
  rw [b1] at CR
  have C1 := Lib.hid (fun W => vRead_any s 44 4 44 4 rfl rfl (.inr rfl) (by omega) (by omega) W)
  have C2 := Lib.hid (fun W => vRead_any s 404 4 404 4 rfl rfl (.inr rfl) (by omega) (by omega) W)
  have C3 := Lib.hid (fun W => vRead_any s 408 2 408 2 rfl rfl (.inl rfl) (by omega) (by omega) W)
  have HE := Lib.hid (show Vs.pfsR (by_ s) loc = if (Vs.readSR (Vs.sl (by_ s) 16 12)).2 = 0 ∧ (Cs.parseR (Vs.sl (by_ s) 112 128)).2 = 0 ∧ Vs.okFs ⟨(Pm.at_ (by_ s) 44 4 : Nat), (Vs.readSR (Vs.sl (by_ s) 16 12)).1.1, bs (Cs.parseR (Vs.sl (by_ s) 112 128)).1, (Pm.at_ (by_ s) 404 4 : Nat), (Pm.at_ (by_ s) 408 2 : Nat)⟩ = true then (⟨(Pm.at_ (by_ s) 44 4 : Nat), (Vs.readSR (Vs.sl (by_ s) 16 12)).1.1, bs (Cs.parseR (Vs.sl (by_ s) 112 128)).1, (Pm.at_ (by_ s) 404 4 : Nat), (Pm.at_ (by_ s) 408 2 : Nat)⟩, 0) else (Vs.f0, 10) from if_pos hi)
  have CS := Lib.hid (fun W (h : Lib.Utf8Tabs 1 2 W) => vSet_any ⟨(Pm.at_ (by_ s) 44 4 : Nat), (Vs.readSR (Vs.sl (by_ s) 16 12)).1.1, bs (Cs.parseR (Vs.sl (by_ s) 112 128)).1, (Pm.at_ (by_ s) 404 4 : Nat), (Pm.at_ (by_ s) 408 2 : Nat)⟩ W h (by show (bs (Cs.parseR (Vs.sl (by_ s) 112 128)).1).size ≤ _; rw [Vs.bs_size]; omega))
  generalize Vs.pfsR (by_ s) loc = RR at *
  generalize Cs.parseR (Vs.sl (by_ s) 112 128) = pr at *
  generalize Vs.readSR (Vs.sl (by_ s) 16 12) = sr at *
  generalize ((Pm.at_ (by_ s) 44 4 : Nat) : Int) = a1 at *
  generalize ((Pm.at_ (by_ s) 404 4 : Nat) : Int) = a2 at *
  generalize ((Pm.at_ (by_ s) 408 2 : Nat) : Int) = a3 at *
  obtain ⟨ps, pe⟩ := pr
  obtain ⟨⟨st, sz⟩, se⟩ := sr
  simp only [] at *
  generalize bs ps = q at *
  generalize Vs.okFs ⟨a1, st, q, a2, a3⟩ = ok at *
  have hs1 : (s.size : Int) = 2048 := by omega
  have HB := Lib.hid ((Below.refl w.heap.size w).alloc (Nat.le_refl _) (.cells #[.int .i64 0, .int .i64 0, .string ⟨#[]⟩, .int .i64 0, .int .i64 0] 65))
  have HN := Lib.hid (heap_alloc_new w (.cells #[.int .i64 0, .int .i64 0, .string ⟨#[]⟩, .int .i64 0, .int .i64 0] 65))
  have HTW := Lib.hid (fun W (h : Below w.heap.size w W) => Kit.tabs_below hT h)
  simp only [Vs.fsC] at CS
  clear hpl b1 b2 z1 z2 hT hi hs hsz
  go_enter Tryz.func34, Tryz.ntmps34
  go_wp2_with fail
  with_reducible refine (CI.out _).mono ?_
  rintro e w2 ⟨rfl, hb2⟩
  have HB2 := Lib.hid (HB.out.trans (hb2.mono HB.out.size))
  have HN2 := Lib.hid ((hb2.block w.heap.size (by simp)).trans HN.out)
  have hs2 : w.heap.size + 1 ≤ w2.heap.size := by have := hb2.size; simpa using this
  clear hb2
  go_wp2_with fail
  with_reducible refine (CR.out _).mono ?_
  rintro e w3 ⟨rfl, hb3⟩
  have HB3 := Lib.hid (HB2.out.trans (hb3.mono HB2.out.size))
  have HN3 := Lib.hid ((hb3.block w.heap.size (by omega)).trans HN2.out)
  have hs3 : w.heap.size + 1 ≤ w3.heap.size := by have := hb3.size; omega
  clear hb3
  go_wp2_with fail
  with_reducible refine (CP.out _).mono ?_
  rintro e w4 ⟨rfl, hb4⟩
  have HB4 := Lib.hid (HB3.out.trans (hb4.mono HB3.out.size))
  have HN4 := Lib.hid ((hb4.block w.heap.size (by omega)).trans HN3.out)
  have hs4 : w.heap.size + 1 ≤ w4.heap.size := by have := hb4.size; omega
  clear hb4
  go_upto_region 6 with (first | (with_reducible refine (C1.out _).mono ?_; rintro e wx ⟨rfl, hw⟩; subst hw) | (with_reducible refine (C2.out _).mono ?_; rintro e wx ⟨rfl, hw⟩; subst hw) | (with_reducible refine (C3.out _).mono ?_; rintro e wx ⟨rfl, hw⟩; subst hw))
  have HB5 := Lib.hid (HB4.out.alloc HB4.out.size (.cells #[.int .i64 a1, .int .i64 st, .string q, .int .i64 a2, .int .i64 a3] 65))
  have HN5 := Lib.hid ((((Below.refl w4.heap.size w4).alloc (Nat.le_refl _) (.cells #[.int .i64 a1, .int .i64 st, .string q, .int .i64 a2, .int .i64 a3] 65)).block w.heap.size (by omega)).trans HN4.out)
  have HO5 := Lib.hid (heap_alloc_new w4 (.cells #[.int .i64 a1, .int .i64 st, .string q, .int .i64 a2, .int .i64 a3] 65))
  have hs5 : (w4.alloc (.cells #[.int .i64 a1, .int .i64 st, .string q, .int .i64 a2, .int .i64 a3] 65)).heap.size = w4.heap.size + 1 := by simp
  generalize w4.alloc (.cells #[.int .i64 a1, .int .i64 st, .string q, .int .i64 a2, .int .i64 a3] 65) = W5 at *
  obtain ⟨o, ho⟩ : ∃ o, o = w4.heap.size := ⟨_, rfl⟩
  have HLD := Lib.hid (show (loadVar 65 ⟨w4.heap.size, 0, none⟩).run Tryz.prog W5 = .ok (.agg #[.int .i64 a1, .int .i64 st, .string q, .int .i64 a2, .int .i64 a3]) W5 from load_row (P := Tryz.prog) (n := 5) 65 _ HO5.out Tryz.underlying65 rfl (by kernel_rfl) (show 0 + 5 ≤ 5 from Nat.le_refl _))
  by_cases hse : se = 0
  case neg =>
    have d1 : (se != 0) = true := by rw [bne_iff_ne]; exact hse
    have HE2 := Lib.hid (HE.out.trans (if_neg (fun h => hse h.1)))
    clear HE
    have z0 := cell_of_row _ _ 0 _ _ _ HN5.out
    have z1 := cell_of_row _ _ 1 _ _ _ HN5.out
    have z2 := cell_of_row _ _ 2 _ _ _ HN5.out
    have z3 := cell_of_row _ _ 3 _ _ _ HN5.out
    have z4 := cell_of_row _ _ 4 _ _ _ HN5.out
    simp only [List.getElem?_toArray, List.getElem?_cons_zero, List.getElem?_cons_succ] at z0 z1 z2 z3 z4
    have hfj := fun j => frozen_of_row _ _ j _ _ HN5.out
    go_wp2_with fail
    exact bodyPost_ret (v := .tuple #[.agg #[.int .i64 0, .int .i64 0, .string ⟨#[]⟩, .int .i64 0, .int .i64 0], .int .i64 10]) (res_ct rfl _ _ w.heap.size 65 #[.int .i64 0, .int .i64 0, .string ⟨#[]⟩, .int .i64 0, .int .i64 0] (0, 0) _ rfl (Vs.row5 HN5.out _ _ _ _ _) Tryz.underlying65 rfl (by kernel_rfl) _ rfl) rfl ⟨by rw [HE2.out]; rfl, Vs.below5 HB5.out (Nat.le_refl _) _ _ _ _ _⟩

  by_cases hpe : pe = 0
  case neg =>
    have d1 : (pe != 0) = true := by rw [bne_iff_ne]; exact hpe
    subst hse
    have HE2 := Lib.hid (HE.out.trans (if_neg (fun h => hpe h.2.1)))
    clear HE
    have z0 := cell_of_row _ _ 0 _ _ _ HN5.out
    have z1 := cell_of_row _ _ 1 _ _ _ HN5.out
    have z2 := cell_of_row _ _ 2 _ _ _ HN5.out
    have z3 := cell_of_row _ _ 3 _ _ _ HN5.out
    have z4 := cell_of_row _ _ 4 _ _ _ HN5.out
    simp only [List.getElem?_toArray, List.getElem?_cons_zero, List.getElem?_cons_succ] at z0 z1 z2 z3 z4
    have hfj := fun j => frozen_of_row _ _ j _ _ HN5.out
    go_wp2_with fail
    exact bodyPost_ret (v := .tuple #[.agg #[.int .i64 0, .int .i64 0, .string ⟨#[]⟩, .int .i64 0, .int .i64 0], .int .i64 10]) (res_ct rfl _ _ w.heap.size 65 #[.int .i64 0, .int .i64 0, .string ⟨#[]⟩, .int .i64 0, .int .i64 0] (0, 0) _ rfl (Vs.row5 HN5.out _ _ _ _ _) Tryz.underlying65 rfl (by kernel_rfl) _ rfl) rfl ⟨by rw [HE2.out]; rfl, Vs.below5 HB5.out (Nat.le_refl _) _ _ _ _ _⟩

  subst hse hpe
  cases ok with
  | false =>
    go_wp2_with (refine wpList_load_at 65 _ rfl w4.heap.size 0 rfl _ HLD.out (by rfl) ?_)
    with_reducible refine (CS.out _ (HTW.out _ HB5.out)).mono ?_
    rintro e w6 ⟨rfl, hb6⟩
    have HB6 := Lib.hid (HB5.out.trans (hb6.mono HB5.out.size))
    have HN6 := Lib.hid ((hb6.block w.heap.size (by omega)).trans HN5.out)
    clear hb6
    have HE2 := Lib.hid (HE.out.trans (if_neg (fun h => absurd h.2.2 (by decide))))
    clear HE
    have z0 := cell_of_row _ _ 0 _ _ _ HN6.out
    have z1 := cell_of_row _ _ 1 _ _ _ HN6.out
    have z2 := cell_of_row _ _ 2 _ _ _ HN6.out
    have z3 := cell_of_row _ _ 3 _ _ _ HN6.out
    have z4 := cell_of_row _ _ 4 _ _ _ HN6.out
    simp only [List.getElem?_toArray, List.getElem?_cons_zero, List.getElem?_cons_succ] at z0 z1 z2 z3 z4
    have hfj := fun j => frozen_of_row _ _ j _ _ HN6.out
    go_wp2_with fail
    exact bodyPost_ret (v := .tuple #[.agg #[.int .i64 0, .int .i64 0, .string ⟨#[]⟩, .int .i64 0, .int .i64 0], .int .i64 10]) (res_ct rfl _ _ w.heap.size 65 #[.int .i64 0, .int .i64 0, .string ⟨#[]⟩, .int .i64 0, .int .i64 0] (0, 0) _ rfl (Vs.row5 HN6.out _ _ _ _ _) Tryz.underlying65 rfl (by kernel_rfl) _ rfl) rfl ⟨by rw [HE2.out]; rfl, Vs.below5 HB6.out (Nat.le_refl _) _ _ _ _ _⟩

  | true =>
    have HE2 := Lib.hid (HE.out.trans (if_pos ⟨rfl, rfl, rfl⟩))
    clear HE
    go_wp2_with (refine wpList_load_at 65 _ rfl w4.heap.size 0 rfl _ HLD.out (by rfl) ?_)
    with_reducible refine (CS.out _ (HTW.out _ HB5.out)).mono ?_
    rintro e w6 ⟨rfl, hb6⟩
    have HB6 := Lib.hid (HB5.out.trans (hb6.mono HB5.out.size))
    have HN6 := Lib.hid ((hb6.block w.heap.size (by omega)).trans HN5.out)
    have HO6 := Lib.hid ((hb6.block w4.heap.size (by omega)).trans HO5.out)
    clear hb6
    have z0 := cell_of_row _ _ 0 _ _ _ HN6.out
    have z1 := cell_of_row _ _ 1 _ _ _ HN6.out
    have z2 := cell_of_row _ _ 2 _ _ _ HN6.out
    have z3 := cell_of_row _ _ 3 _ _ _ HN6.out
    have z4 := cell_of_row _ _ 4 _ _ _ HN6.out
    simp only [List.getElem?_toArray, List.getElem?_cons_zero, List.getElem?_cons_succ] at z0 z1 z2 z3 z4
    have y0 := cell_of_row _ _ 0 _ _ _ HO6.out
    have y1 := cell_of_row _ _ 1 _ _ _ HO6.out
    have y2 := cell_of_row _ _ 2 _ _ _ HO6.out
    have y3 := cell_of_row _ _ 3 _ _ _ HO6.out
    have y4 := cell_of_row _ _ 4 _ _ _ HO6.out
    simp only [List.getElem?_toArray, List.getElem?_cons_zero, List.getElem?_cons_succ] at y0 y1 y2 y3 y4
    have hfj := fun j => frozen_of_row _ _ j _ _ HN6.out
    go_wp2_with fail
    exact bodyPost_ret (v := .tuple #[.agg #[.int .i64 a1, .int .i64 st, .string q, .int .i64 a2, .int .i64 a3], .int .i64 0]) (res_ct rfl _ _ w.heap.size 65 #[.int .i64 a1, .int .i64 st, .string q, .int .i64 a2, .int .i64 a3] (0, 0) _ rfl (Vs.row5 HN6.out _ _ _ _ _) Tryz.underlying65 rfl (by kernel_rfl) _ rfl) rfl ⟨by rw [HE2.out]; rfl, Vs.below5 HB6.out (Nat.le_refl _) _ _ _ _ _⟩
/-- ParseFileSet. -/
theorem vParseFileSet_any (s : ByteArray) (loc : Int) (w : World) (hT : Lib.Utf8Tabs 1 2 w) (hs : s.size ≤ 9223372036854775807) :
    Calls Tryz.prog 34 #[.string s, .int .i64 loc] w fun e w' => e = .returned (.tuple #[.agg (Vs.fsC (Vs.pfsR (by_ s) loc).1), .int .i64 (Vs.pfsR (by_ s) loc).2]) ∧ Below w.heap.size w w' := by
  cases h : Vs.isB (by_ s) 256 loc with
  | false => exact vParseFileSet_no s loc w hs h
  | true => exact vParseFileSet_yes s loc w hT hs h
end Go.Proofs.YthkppbimkjmbnaaGreatDoor

/-
  The walk through the reference's Dstring.
-/
namespace Go.Proofs.YthkppbimkjmbnaaGreatDoor
open Go.RowKit

set_option maxHeartbeats 1600000 in
set_option maxRecDepth 100000 in
/-- masterdiscref32.Dstring. -/
theorem vDstring_any (s : ByteArray) (size : Int) (w : World) (hs : s.size ≤ 9223372036854775807) :
    Calls Tryz.prog 155 #[.string s, .int .i64 size] w fun e w' => e = .returned (.tuple #[.string ⟨(Cs.dstrR s.data.toList size).1.toArray⟩, .int .i64 (Cs.dstrR s.data.toList size).2]) ∧ Below w.heap.size w w' := by
  have cC := rCompress_any s w hs
  by_cases hz : Cs.sized size = true
  case neg =>
    have hz' : Cs.sized size = false := by simpa using hz
    have HR := Lib.hid (show Cs.dstrR s.data.toList size = ([], 1) from if_pos hz')
    have h25 : ¬ (2 ≤ size ∧ size ≤ 255) := fun h => hz ((sized_iff _).2 h)
    clear cC hz hz'
    by_cases h2 : size < 2
    · clear h25
      go_enter Tryz.func155, Tryz.ntmps155
      go_wp2_with fail
      go_ret2
      rw [HR.out]
      exact ⟨rfl, Below.refl _ _⟩
    have h255 : 255 < size := by omega
    clear h25
    go_enter Tryz.func155, Tryz.ntmps155
    go_wp2_with fail
    go_ret2
    rw [HR.out]
    exact ⟨rfl, Below.refl _ _⟩
  case pos =>
  have hR1 : Cs.dstrR s.data.toList size = if ¬ (Cs.compressR s.data.toList).2 = 0 then ([], (Cs.compressR s.data.toList).2)
      else if size - 1 < (Cs.compressR s.data.toList).1.length then ([], 12)
      else ((Cs.compressR s.data.toList).1 ++ List.replicate (size.toNat - 1 - (Cs.compressR s.data.toList).1.length) 0 ++ [UInt8.ofNat (Cs.compressR s.data.toList).1.length], 0) := by
    unfold Cs.dstrR
    rw [if_neg (by rw [hz]; simp)]
  obtain ⟨hz2, hz255⟩ := (sized_iff _).1 hz
  generalize (Cs.compressR s.data.toList).1 = cd at *
  generalize (Cs.compressR s.data.toList).2 = er at *
  have CC := Lib.hid cC
  clear cC hz
  by_cases h0 : er = 0
  case neg =>
    rw [if_pos h0] at hR1
    have HR := Lib.hid hR1
    have h0' : (er != 0) = true := by rw [bne_iff_ne]; exact h0
    clear hR1 h0
    go_enter Tryz.func155, Tryz.ntmps155
    go_wp2_with fail
    with_reducible refine (CC.out).mono ?_
    rintro e w3 ⟨rfl, hb3⟩
    go_wp2_with fail
    go_ret2
    rw [HR.out]
    exact ⟨rfl, hb3⟩
  case pos =>
  subst h0
  rw [if_neg (by simp)] at hR1
  by_cases hf : size - 1 < cd.length
  · rw [if_pos hf] at hR1
    have HR := Lib.hid hR1
    clear hR1
    go_enter Tryz.func155, Tryz.ntmps155
    go_wp2_with fail
    with_reducible refine (CC.out).mono ?_
    rintro e w3 ⟨rfl, hb3⟩
    go_wp2_with fail
    go_ret2
    rw [HR.out]
    exact ⟨rfl, hb3⟩
  · rw [if_neg hf] at hR1
    have HR := Lib.hid hR1
    clear hR1
    have hcd : (cd.length : Int) ≤ 254 := by omega
    go_enter Tryz.func155, Tryz.ntmps155
    go_wp2_with fail
    with_reducible refine (CC.out).mono ?_
    rintro e w3 ⟨rfl, hb3⟩
    go_wp2_with fail
    have hcv : ∀ (W : World) (g : Nat), W.cell? ⟨g, 0, none⟩ = some (.int .u8 (cd.length : Int)) → (convert 126 9 (.slice (some ⟨g, 0, none⟩) 1 1)).run Tryz.prog W = .ok (.string ⟨#[UInt8.ofNat cd.length]⟩) W := fun W g h => Kit.str_cell (x := (cd.length : Int)) (by omega) (by omega) h
    have k1 : IntKind.i64.wrap (size - 1) = size - 1 := IntWalk.i64_in _ (by omega)
    have k2 : IntKind.i64.wrap (size - 1 - (cd.length : Int)) = size - 1 - (cd.length : Int) := IntWalk.i64_in _ (by omega)
    have k3 : IntKind.u8.wrap (cd.length : Int) = (cd.length : Int) := IntWalk.u8_in _ (by omega)
    have q1 : size - 1 - (cd.length : Int) ≤ 65536 := by omega
    have cZ := fun W => vZeros_any (size - 1 - (cd.length : Int)) q1 (by omega) W
    go_region_with (first | (go_at_call 81; refine (cZ _).mono ?_; rintro e w4 ⟨rfl, hb4⟩; have hbc := (Kit.bcell hb4).1))
    all_goals (try go_wp2_with fail)
    all_goals go_ret2
    all_goals rw [HR.out]
    all_goals refine ⟨?_, ?_⟩
    all_goals have hs3 := hb3.size
    all_goals have hs4 := hb4.size
    all_goals simp only [World.size_alloc, World.size_drew] at hs4
    all_goals first
      | (with_reducible refine congrArg Ending.returned ?_; simp [Act.put]; apply ByteArray.ext; simp [ByteArray.data_append])
      | (repeat (first
           | exact hb3
           | (refine Below.drew ?_)
           | (refine Below.trans ?_ (Below.mono hb4 (by first | omega | (simp; omega))))
           | (refine Below.alloc ?_ (by first | omega | (simp; omega)) _)))
end Go.Proofs.YthkppbimkjmbnaaGreatDoor

/-
  The walks through the reference's small functions.
-/
namespace Go.Proofs.YthkppbimkjmbnaaGreatDoor
open Go.RowKit
open Vs (bs by_)
namespace Vs
theorem putL_len {b p : List UInt8} {a : Nat} (h : a - 16 + p.length ≤ b.length) : (putL b a p).length = b.length := by
  unfold putL
  rw [List.length_append, List.length_append, List.length_take, List.length_drop]
  omega
end Vs

set_option maxHeartbeats 1600000 in
set_option maxRecDepth 100000 in
/-- masterdiscref36.word. -/
theorem r36Word_any (n : Int) (w : World) : Calls Tryz.prog 48 #[.int .i64 n] w fun e w' => e = .returned (.bool (Vs.word n)) ∧ w = w' := by
  unfold Vs.word
  by_cases h1 : 0 ≤ n <;> by_cases h2 : n < 4294967296
  all_goals
    first | rw [decide_eq_true h1] | rw [decide_eq_false h1]
    first | rw [decide_eq_true h2] | rw [decide_eq_false h2]
    go_enter Tryz.func48, Tryz.ntmps48
    go_wp2
    go_ret
    exact ⟨rfl, rfl⟩


set_option maxHeartbeats 1600000 in
set_option maxRecDepth 100000 in
/-- masterdiscref36.time. -/
theorem r36Time_any (n : Int) (w : World) : Calls Tryz.prog 135 #[.int .i64 n] w fun e w' => e = .returned (.bool (Vs.isTime n)) ∧ w = w' := by
  unfold Vs.isTime
  by_cases h1 : 315532800 ≤ n <;> by_cases h2 : n ≤ 4102444799
  all_goals
    first | rw [decide_eq_true h1] | rw [decide_eq_false h1]
    first | rw [decide_eq_true h2] | rw [decide_eq_false h2]
    go_enter Tryz.func135, Tryz.ntmps135
    go_wp2
    go_ret
    exact ⟨rfl, rfl⟩


set_option maxHeartbeats 1600000 in
set_option maxRecDepth 100000 in
/-- masterdiscref36.span. -/
theorem r36Span_any (s c : Int) (w : World) : Calls Tryz.prog 49 #[.agg #[.int .i64 s, .int .i64 c]] w fun e w' => e = .returned (.bool (Vs.spanB s c)) ∧ Below w.heap.size w w' := by
  have CW := Lib.hid (fun W => r36Word_any s W)
  unfold Vs.spanB
  have HB := Lib.hid ((Below.refl w.heap.size w).alloc (Nat.le_refl _) (.cells #[.int .i64 s, .int .i64 c] 23))
  cases h0 : Vs.word s with
  | false =>
    rw [h0] at CW
    go_enter Tryz.func49, Tryz.ntmps49
    go_wp2_with fail
    with_reducible refine (CW.out _).mono ?_
    rintro e w2 ⟨rfl, hw⟩
    subst hw
    go_wp2_with fail
    go_ret
    exact ⟨rfl, HB.out⟩
  | true =>
  rw [h0] at CW
  by_cases h1 : 0 ≤ c <;> by_cases h2 : c < 2097152
  all_goals
    first
      | have d1 : decide (0 ≤ c) = true := decide_eq_true h1
      | have d1 : decide (0 ≤ c) = false := decide_eq_false h1
    first
      | have d2 : decide (c < 2097152) = true := decide_eq_true h2
      | have d2 : decide (c < 2097152) = false := decide_eq_false h2
    rw [d1, d2]
    clear h1 h2
    go_enter Tryz.func49, Tryz.ntmps49
    go_wp2_with fail
    with_reducible refine (CW.out _).mono ?_
    rintro e w2 ⟨rfl, hw⟩
    subst hw
    go_wp2_with fail
    go_ret
    exact ⟨rfl, HB.out⟩


set_option maxHeartbeats 3200000 in
set_option maxRecDepth 100000 in
/-- masterdiscref36.is. -/
theorem r36Is_any (s : ByteArray) (id loc : Int) (w : World) (hs : s.size ≤ 9223372036854775807) :
    Calls Tryz.prog 55 #[.string s, .int .i64 id, .int .i64 loc] w fun e w' => e = .returned (.bool (Vs.isB (by_ s) id loc)) ∧ Below w.heap.size w w' := by
  have CI := Lib.hid (fun W => r31Is_any s id loc W hs)
  have HR := Lib.hid (show Vs.isB (by_ s) id loc = (decide ((by_ s).length = 2048) && Vs.isR (by_ s) id loc) from rfl)
  rw [Vs.by_len] at HR
  by_cases h : s.size = 2048
  · rw [decide_eq_true h, Bool.true_and] at HR
    rw [HR.out]
    have he : ((s.size : Int) == 2048) = true := by rw [h]; rfl
    generalize Vs.isR (by_ s) id loc = r at *
    clear h HR
    go_enter Tryz.func55, Tryz.ntmps55
    go_wp2_with fail
    with_reducible refine (CI.out _).mono ?_
    rintro e w2 ⟨rfl, hb2⟩
    go_wp2_with fail
    go_ret
    exact ⟨rfl, hb2⟩
  · rw [decide_eq_false h, Bool.false_and] at HR
    rw [HR.out]
    have he : ((s.size : Int) == 2048) = false := by rw [beq_eq_false_iff_ne]; omega
    clear h HR
    go_enter Tryz.func55, Tryz.ntmps55
    go_wp2_with fail
    go_ret
    exact ⟨rfl, Below.refl _ _⟩


set_option maxHeartbeats 1600000 in
set_option maxRecDepth 100000 in
/-- masterdiscref36.entity. -/
theorem r36Entity_any (i s : ByteArray) (w : World) (hi : i.size ≤ 9223372036854775807) (hs : s.size ≤ 9223372036854775807) : Calls Tryz.prog 105 #[.string i, .string s] w fun e w' => e = .returned (.string (bs (Cs.entR (by_ i) (by_ s)).1)) ∧ Below w.heap.size w w' := by
  have CE := Lib.hid (fun W => rEntity_any i s W hi hs)
  rw [show (⟨(Cs.entR i.data.toList s.data.toList).1.toArray⟩ : ByteArray) = bs (Cs.entR (by_ i) (by_ s)).1 from rfl] at CE
  generalize bs (Cs.entR (by_ i) (by_ s)).1 = r at *
  generalize (Cs.entR i.data.toList s.data.toList).2 = er at *
  go_enter Tryz.func105, Tryz.ntmps105
  go_wp2_with fail
  with_reducible refine (CE.out _).mono ?_
  rintro e w2 ⟨rfl, hb⟩
  go_wp2_with fail
  go_ret
  exact ⟨rfl, hb⟩


set_option maxHeartbeats 1600000 in
set_option maxRecDepth 100000 in
/-- masterdiscref36.stamp. -/
theorem r36Stamp_any (t : Int) (w : World) (ht : Vs.isTime t = true) : Calls Tryz.prog 100 #[.int .i64 t] w fun e w' => e = .returned (.string (bs (Vs.stampR t))) ∧ Below w.heap.size w w' := by
  have CS := Lib.hid (fun W => r16Stamp_any t W ht)
  clear ht
  generalize bs (Vs.stampR t) = r at *
  go_enter Tryz.func100, Tryz.ntmps100
  go_wp2_with fail
  with_reducible refine (CS.out _).mono ?_
  rintro e w2 ⟨rfl, hb⟩
  go_wp2_with fail
  go_ret
  exact ⟨rfl, hb⟩


set_option maxHeartbeats 1600000 in
set_option maxRecDepth 100000 in
/-- masterdiscref36.name. -/
theorem r36Name_any (s : ByteArray) (w : World) (hs : s.size ≤ 9223372036854775807) : Calls Tryz.prog 134 #[.string s] w fun e w' => e = .returned (.bool (Vs.namedB (by_ s))) ∧ Below w.heap.size w w' := by
  have CD := Lib.hid (vDstring_any s 128 w hs)
  unfold Vs.namedB
  change Hid (Calls _ _ _ _ fun e w' => e = .returned (.tuple #[_, .int .i64 (Cs.dstrR (by_ s) 128).2]) ∧ _) at CD
  by_cases h0 : s.size = 0
  · have e1 := Kit.is_empty s h0
    have hem : (by_ s).isEmpty = true := by show (s.data.toList).isEmpty = _; rw [← Lib.toList_data]; exact e1
    rw [hem]
    clear hem h0
    generalize (⟨(Cs.dstrR s.data.toList 128).1.toArray⟩ : ByteArray) = o at *
    generalize (Cs.dstrR (by_ s) 128).2 = er at *
    go_enter Tryz.func134, Tryz.ntmps134
    go_wp2_with fail
    with_reducible refine CD.out.mono ?_
    rintro e w2 ⟨rfl, hb⟩
    go_wp2_with fail
    go_ret
    exact ⟨rfl, hb⟩
  · have e1 := Kit.not_empty s (by omega)
    have hem : (by_ s).isEmpty = false := by show (s.data.toList).isEmpty = _; rw [← Lib.toList_data]; exact e1
    rw [hem]
    clear h0 hem
    by_cases h : (Cs.dstrR (by_ s) 128).2 = 0
    · rw [h] at CD
      rw [decide_eq_true h]
      clear h
      generalize (⟨(Cs.dstrR s.data.toList 128).1.toArray⟩ : ByteArray) = o at *
      go_enter Tryz.func134, Tryz.ntmps134
      go_wp2_with fail
      with_reducible refine CD.out.mono ?_
      rintro e w2 ⟨rfl, hb⟩
      go_wp2_with fail
      go_ret
      exact ⟨rfl, hb⟩
    · rw [decide_eq_false h]
      have he : ((Cs.dstrR (by_ s) 128).2 == 0) = false := by rw [beq_eq_false_iff_ne]; exact h
      clear h
      generalize (⟨(Cs.dstrR s.data.toList 128).1.toArray⟩ : ByteArray) = o at *
      generalize (Cs.dstrR (by_ s) 128).2 = er at *
      go_enter Tryz.func134, Tryz.ntmps134
      go_wp2_with fail
      with_reducible refine CD.out.mono ?_
      rintro e w2 ⟨rfl, hb⟩
      go_wp2_with fail
      go_ret
      exact ⟨rfl, hb⟩

set_option maxHeartbeats 1600000 in
set_option maxRecDepth 100000 in
/-- masterdiscref36.field. -/
theorem r36Field_any (s : ByteArray) (n : Int) (w : World) (hs : s.size ≤ 9223372036854775807) (hn : n ≤ 255) : Calls Tryz.prog 103 #[.string s, .int .i64 n] w fun e w' => e = .returned (.string (bs (Vs.fldL (by_ s) n))) ∧ Below w.heap.size w w' := by
  have CF := Lib.hid (vFit_any s n w hs)
  have hl := Vs.fit_len (l := by_ s) (n := n) hn
  have CD := Lib.hid (fun W => vDstring_any (bs (Cs.fitR (by_ s) n)) n W (by rw [Vs.bs_size]; omega))
  rw [show (⟨(Cs.fitR s.data.toList n).toArray⟩ : ByteArray) = bs (Cs.fitR (by_ s) n) from rfl] at CF
  have HR := Lib.hid (show (⟨(Cs.dstrR (bs (Cs.fitR (by_ s) n)).data.toList n).1.toArray⟩ : ByteArray) = bs (Vs.fldL (by_ s) n) from rfl)
  rw [HR.out] at CD
  clear HR hl
  generalize bs (Vs.fldL (by_ s) n) = r at *
  generalize (Cs.dstrR (bs (Cs.fitR (by_ s) n)).data.toList n).2 = er at *
  generalize bs (Cs.fitR (by_ s) n) = m at *
  go_enter Tryz.func103, Tryz.ntmps103
  go_wp2_with fail
  with_reducible refine CF.out.mono ?_
  rintro e w2 ⟨rfl, hb⟩
  go_wp2_with fail
  with_reducible refine (CD.out _).mono ?_
  rintro e w3 ⟨rfl, hb3⟩
  go_wp2_with fail
  go_ret
  exact ⟨rfl, hb.trans (hb3.mono hb.size)⟩


set_option maxHeartbeats 6400000 in
set_option maxRecDepth 100000 in
/-- masterdiscref36.Set. -/
theorem r36Set_any (f : Vs.Fs) (w : World) (s1 : f.name.size ≤ 9223372036854775807) :
    Calls Tryz.prog 98 #[.agg (Vs.fsC f)] w fun e w' => e = .returned (.bool (Vs.okFs f)) ∧ Below w.heap.size w w' := by
  have C1 := Lib.hid (fun W => r36Word_any f.num W)
  have C2 := Lib.hid (fun W => r36Word_any f.rb W)
  have C3 := Lib.hid (fun W => r36Time_any f.time W)
  have C4 := Lib.hid (fun W => r36Name_any f.name W s1)
  have HI := Lib.hid (Vs.okFs_iff f)
  have HB := Lib.hid ((Below.refl w.heap.size w).alloc (Nat.le_refl _) (.cells (Vs.fsC f) 65))
  obtain ⟨num, tm, name, rb, rp⟩ := f
  unfold Vs.fsC at *
  simp only [] at *
  generalize Vs.okFs ⟨num, tm, name, rb, rp⟩ = R at *
  generalize Vs.word num = b1 at *
  generalize Vs.word rb = b2 at *
  generalize Vs.isTime tm = b3 at *
  generalize Vs.namedB (by_ name) = b4 at *
  have hcs : (b1 = false) ∨ (b1 = true ∧ b2 = false) ∨ (b1 = true ∧ b2 = true ∧ rp < 0) ∨ (b1 = true ∧ b2 = true ∧ 0 ≤ rp ∧ 65535 < rp) ∨ (b1 = true ∧ b2 = true ∧ 0 ≤ rp ∧ rp ≤ 65535 ∧ b3 = false) ∨ (b1 = true ∧ b2 = true ∧ 0 ≤ rp ∧ rp ≤ 65535 ∧ b3 = true) := by
    cases b1 <;> cases b2 <;> cases b3 <;> simp <;> omega
  rcases hcs with h | ⟨h, h2⟩ | ⟨h, h2, h3⟩ | ⟨h, h2, h3, h4⟩ | ⟨h, h2, h3, h4, h5⟩ | ⟨h, h2, h3, h4, h5⟩
  case inr.inr.inr.inr.inr =>
    subst h h2 h5
    have HV := Lib.hid (show R = b4 by
      rw [Bool.eq_iff_iff, HI.out]
      exact ⟨fun g => g.2.2.2.2.2, fun g => ⟨rfl, rfl, h3, h4, rfl, g⟩⟩)
    clear HI
    go_enter Tryz.func98, Tryz.ntmps98
    go_wp2_with (first | (with_reducible refine (C1.out _).mono ?_; rintro e wx ⟨rfl, hw⟩; subst hw) | (with_reducible refine (C2.out _).mono ?_; rintro e wx ⟨rfl, hw⟩; subst hw) | (with_reducible refine (C3.out _).mono ?_; rintro e wx ⟨rfl, hw⟩; subst hw))
    with_reducible refine (C4.out _).mono ?_
    rintro e w2 ⟨rfl, hb2⟩
    have HB2 := Lib.hid (HB.out.trans (hb2.mono HB.out.size))
    clear hb2
    go_wp2_with fail
    go_ret
    rw [HV.out]
    exact ⟨rfl, HB2.out⟩
  all_goals
    have HV := Lib.hid (show R = false by
      rw [Bool.eq_false_iff]
      intro g
      obtain ⟨g1, g2, g3, g4, g5, g6⟩ := HI.out.1 g
      first
        | omega
        | exact absurd (h.symm.trans g1) (by decide)
        | exact absurd (h2.symm.trans g2) (by decide)
        | exact absurd (h5.symm.trans g5) (by decide))
    try subst h
    try subst h2
    try subst h5
    clear HI
    go_enter Tryz.func98, Tryz.ntmps98
    go_wp2_with (first | (with_reducible refine (C1.out _).mono ?_; rintro e wx ⟨rfl, hw⟩; subst hw) | (with_reducible refine (C2.out _).mono ?_; rintro e wx ⟨rfl, hw⟩; subst hw) | (with_reducible refine (C3.out _).mono ?_; rintro e wx ⟨rfl, hw⟩; subst hw))
    go_ret
    rw [HV.out]
    exact ⟨rfl, HB.out⟩


set_option maxHeartbeats 1600000 in
set_option maxRecDepth 100000 in
/-- masterdiscref36.put. -/
theorem r36Put_any (b p : ByteArray) (a : Nat) (A : Int) (hA : A = (a : Int)) (h0 : 16 ≤ a) (h1 : a - 16 + p.size ≤ b.size) (hs : b.size ≤ 1000000) (w : World) :
    Calls Tryz.prog 99 #[.string b, .int .i64 A, .string p] w fun e w' => e = .returned (.string (bs (Vs.putL (by_ b) a (by_ p)))) ∧ Below w.heap.size w w' := by
  subst hA
  obtain ⟨k, rfl⟩ : ∃ k, a = k + 16 := ⟨a - 16, by omega⟩
  rw [Nat.add_sub_cancel] at h1
  have HR := Lib.hid (show b.extract 0 k ++ p ++ b.extract (k + p.size) b.size = bs (Vs.putL (by_ b) (k + 16) (by_ p)) by
    rw [Vs.bs_ext, Vs.bs_ext]
    have hp : p = bs (by_ p) := (Vs.bs_by p).symm
    conv => lhs; rw [hp]
    rw [Vs.bs_app, Vs.bs_app]
    refine congrArg bs ?_
    have hl := Vs.by_len b
    have hpl := Vs.by_len p
    rw [show (bs (by_ p)).size = p.size by rw [Vs.bs_by]]
    unfold Vs.putL Vs.sl
    rw [Nat.add_sub_cancel, List.drop_zero, Nat.sub_zero, List.append_assoc, hpl]
    congr 2
    rw [List.take_of_length_le]
    rw [List.length_drop]
    omega)
  have hk : ((k + 16 : Nat) : Int) = (k : Int) + 16 := by omega
  rw [hk]
  have hk1 : (k : Int) + (p.size : Int) ≤ (b.size : Int) := by omega
  have hk2 : (k : Int) ≤ (b.size : Int) := by omega
  have hb6 : (b.size : Int) ≤ 1000000 := by omega
  go_enter Tryz.func99, Tryz.ntmps99
  go_wp2_with fail
  refine wp_region_later w.heap.size (by kernel_rfl) (by kernel_rfl) ?_
  repeat (any_goals (first | go_big_quiet_skip | (go_big_quiet_want; go_big_quiet_op; go_big_quiet_on)))
  refine wpQuiet_nil ?_
  intro wq hw'
  obtain ⟨⟨wz, hbq⟩, hw''⟩ := hw'
  subst hw''
  have HB := Lib.hid hbq
  clear hbq
  go_wp2_with fail
  go_ret
  rw [← HR.out]
  exact ⟨rfl, HB.out⟩

/-- put, on lists. -/
theorem r36PutL_any (B P : List UInt8) (a : Nat) (A : Int) (hA : A = (a : Int)) (B' : List UInt8) (hB : B' = Vs.putL B a P) (h0 : 16 ≤ a) (h1 : a - 16 + P.length ≤ B.length) (hs : B.length ≤ 1000000) (w : World) :
    Calls Tryz.prog 99 #[.string (bs B), .int .i64 A, .string (bs P)] w fun e w' => e = .returned (.string (bs B')) ∧ Below w.heap.size w w' := by
  subst hB
  exact r36Put_any (bs B) (bs P) a A hA h0 (by rw [Vs.bs_size, Vs.bs_size]; exact h1) (by rw [Vs.bs_size]; exact hs) w

set_option maxHeartbeats 1600000 in
set_option maxRecDepth 100000 in
/-- masterdiscref36.number, on lists. -/
theorem r36NumL_any (B P : List UInt8) (a k : Nat) (A n K : Int) (hA : A = (a : Int)) (hK : K = (k : Int)) (hP : P = Pm.le k n.toNat) (B' : List UInt8) (hB : B' = Vs.putL B a P) (h0 : 16 ≤ a) (h1 : a - 16 + k ≤ B.length) (hs : B.length ≤ 1000000) (hk : k ≤ 8) (hn : 0 ≤ n) (hn2 : n ≤ 9223372036854775807) (w : World) :
    Calls Tryz.prog 101 #[.string (bs B), .int .i64 A, .int .i64 n, .int .i64 K] w fun e w' => e = .returned (.string (bs B')) ∧ Below w.heap.size w w' := by
  have hl : P.length = k := by rw [hP, Pm.le_len]
  have C1 := Lib.hid (fun W => r01_any n.toNat k n K (by omega) hK (by omega) (by omega) W)
  rw [← hP] at C1
  have C2 := Lib.hid (fun W => r36PutL_any B P a A hA B' hB h0 (by omega) hs W)
  clear hA hK hP hB h0 h1 hs hk hn hn2 hl
  generalize bs B = b0 at *
  generalize bs B' = b1 at *
  generalize bs P = p at *
  go_enter Tryz.func101, Tryz.ntmps101
  go_wp2_with fail
  with_reducible refine (C1.out _).mono ?_
  rintro e w2 ⟨rfl, hb2⟩
  go_wp2_with fail
  with_reducible refine (C2.out _).mono ?_
  rintro e w3 ⟨rfl, hb3⟩
  go_wp2_with fail
  go_ret
  exact ⟨rfl, hb2.trans (hb3.mono hb2.size)⟩

set_option maxHeartbeats 1600000 in
set_option maxRecDepth 100000 in
/-- masterdiscref36.dstring. -/
theorem r36Dstring_any (s : ByteArray) (a k : Nat) (A K : Int) (hA : A = (a : Int)) (hK : K = (k : Int)) (ha : a + k ≤ s.size) (hs : s.size ≤ 1000000) (w : World) :
    Calls Tryz.prog 88 #[.string s, .int .i64 A, .int .i64 K] w fun e w' => e = .returned (.tuple #[.string (bs (Cs.parseR (Vs.sl (by_ s) a k)).1), .bool (decide ((Cs.parseR (Vs.sl (by_ s) a k)).2 = 0))]) ∧ Below w.heap.size w w' := by
  subst hA hK
  obtain ⟨x, hx⟩ : ∃ x, s.extract a (a + k) = x := ⟨_, rfl⟩
  have hb : by_ x = Vs.sl (by_ s) a k := by rw [← hx, Vs.bs_ext, Nat.add_sub_cancel_left]; rfl
  have CP := Lib.hid (fun W => (show Calls Tryz.prog 144 #[.string x] W fun e w' => e = .returned (.tuple #[.string (bs (Cs.parseR (by_ x)).1), .int .i64 (Cs.parseR (by_ x)).2]) ∧ Below W.heap.size W w' from vParse_any x W (by rw [← hx, ByteArray.size_extract]; omega)))
  rw [hb] at CP
  clear hb
  generalize Cs.parseR (Vs.sl (by_ s) a k) = pr at *
  obtain ⟨p, er⟩ := pr
  simp only [] at *
  generalize bs p = q at *
  obtain ⟨B, hB⟩ : ∃ B : Bool, (er == 0) = B := ⟨_, rfl⟩
  have HD := Lib.hid (show decide (er = 0) = B by rw [← hB]; by_cases e : er = 0 <;> simp [e])
  have ha1 : (a : Int) + (k : Int) ≤ (s.size : Int) := by omega
  have ha2 : (s.size : Int) ≤ 1000000 := by omega
  rw [HD.out]
  clear HD ha hs
  go_enter Tryz.func88, Tryz.ntmps88
  go_wp2_with fail
  with_reducible refine (CP.out _).mono ?_
  rintro e w2 ⟨rfl, hb2⟩
  go_wp2_with fail
  go_ret2
  first | exact ⟨rfl, hb2⟩ | (rw [hB]; exact ⟨rfl, hb2⟩)

set_option maxHeartbeats 1600000 in
set_option maxRecDepth 100000 in
/-- masterdiscref36.readStamp. -/
theorem r36ReadStamp_any (s : ByteArray) (a : Nat) (A : Int) (hA : A = (a : Int)) (ha : a + 12 ≤ s.size) (hs : s.size ≤ 1000000) (w : World) :
    Calls Tryz.prog 89 #[.string s, .int .i64 A] w fun e w' => e = .returned (.tuple #[.int .i64 (Vs.readSR (Vs.sl (by_ s) a 12)).1.1, .bool (decide ((Vs.readSR (Vs.sl (by_ s) a 12)).2 = 0))]) ∧ Below w.heap.size w w' := by
  subst hA
  obtain ⟨x, hx⟩ : ∃ x, s.extract a (a + 12) = x := ⟨_, rfl⟩
  have hb : by_ x = Vs.sl (by_ s) a 12 := by rw [← hx, Vs.bs_ext, Nat.add_sub_cancel_left]; rfl
  have CP := Lib.hid (fun W => r16ReadStamp_any x W (by rw [← hx, ByteArray.size_extract]; omega))
  rw [hb] at CP
  clear hb
  generalize Vs.readSR (Vs.sl (by_ s) a 12) = pr at *
  obtain ⟨⟨t, zo⟩, er⟩ := pr
  simp only [] at *
  obtain ⟨B, hB⟩ : ∃ B : Bool, (er == 0) = B := ⟨_, rfl⟩
  have HD := Lib.hid (show decide (er = 0) = B by rw [← hB]; by_cases e : er = 0 <;> simp [e])
  have ha1 : (a : Int) + 12 ≤ (s.size : Int) := by omega
  have ha2 : (s.size : Int) ≤ 1000000 := by omega
  rw [HD.out]
  clear HD ha hs
  go_enter Tryz.func89, Tryz.ntmps89
  go_wp2_with fail
  with_reducible refine (CP.out _).mono ?_
  rintro e w2 ⟨rfl, hb2⟩
  go_wp2_with fail
  go_ret2
  first | exact ⟨rfl, hb2⟩ | (rw [hB]; exact ⟨rfl, hb2⟩)
end Go.Proofs.YthkppbimkjmbnaaGreatDoor

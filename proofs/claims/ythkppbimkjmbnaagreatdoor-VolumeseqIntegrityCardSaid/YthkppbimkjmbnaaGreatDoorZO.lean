/-
  The walks through volumeseq's checks: volume, partition, logical.
-/
import Derived.Test.YthkppbimkjmbnaaGreatDoorZN
import Derived.Test.YthkppbimkjmbnaaGreatDoorCards
import Derived.Test.YthkppbimkjmbnaaGreatDoorTie
import Derived.Test.YthkppbimkjmbnaaGreatDoorShelf
import Derived.WalkKit
import Derived.ProofKit
import Derived.OpenShut
import Derived.ShutString
import Derived.ChangeOld
import Derived.Deep.DeepHandedRow
import Derived.Lib.LaidTab
import Derived.Lib.LaidU8
import Derived.Deep.Slices
import Derived.ChangeArms
import Derived.Carry
import Derived.Test.YthkppbimkjmbnaaGreatDoorZE
import Derived.Test.YthkppbimkjmbnaaGreatDoorZA
import Derived.Maps.OwnSet
import Derived.Maps.Views
import Derived.Test.YthkppbimkjmbnaaGreatDoorZK
namespace Go.Proofs.YthkppbimkjmbnaaGreatDoor
open Go.RowKit
open Vs (bs by_)
namespace Vs
/-- The cells of descriptors. -/
def volC (v : Vol) : Array Value := #[.string v.name, .string v.set, .string v.pub, .string v.prep, .string v.app, .int .i64 v.number, .int .i64 v.discs, .int .i64 v.time]
def partC (p : Part) : Array Value := #[.int .i64 p.number, .int .i64 p.access, .int .i64 p.start, .int .i64 p.count, .int .i64 p.bstart, .int .i64 p.bcount]
def dC (d : D) : Array Value := #[.string d.vol.name, .string d.vol.set, .string d.vol.pub, .string d.vol.prep, .string d.vol.app, .int .i64 d.vol.number, .int .i64 d.vol.discs, .int .i64 d.vol.time, .int .i64 d.part.number, .int .i64 d.part.access, .int .i64 d.part.start, .int .i64 d.part.count, .int .i64 d.part.bstart, .int .i64 d.part.bcount, .int .i64 d.maps, .string d.table, .int .i64 d.fk, .int .i64 d.fl, .int .i64 d.fb, .int .i64 d.fp, .int .i64 d.istart, .int .i64 d.icount]
end Vs

set_option maxHeartbeats 3200000 in
set_option maxRecDepth 100000 in
/-- volume. -/
theorem vVolume_any (v : Vs.Vol) (w : World) (hT : Lib.Utf8Tabs 1 2 w) (hs : v.set.size ≤ 9223372036854775807) :
    Calls Tryz.prog 61 #[.agg (Vs.volC v)] w fun e w' => e = .returned (.bool (Vs.okVol v)) ∧ Below w.heap.size w w' := by
  have CX := Lib.hid (fun W (h : Lib.Utf8Tabs 1 2 W) => vText_any v.set W h hs)
  have CT := Lib.hid (fun W => timed_any v.time W)
  have HI := Lib.hid (Vs.okVol_iff v)
  have HB := Lib.hid ((Below.refl w.heap.size w).alloc (Nat.le_refl _) (.cells (Vs.volC v) 38))
  have HN := Lib.hid (heap_alloc_new w (.cells (Vs.volC v) 38))
  have HT := Lib.hid (Kit.tabs_below hT HB.out)
  clear hT
  obtain ⟨name, set, pub, prep, app, n, dd, tm⟩ := v
  unfold Vs.volC at *
  simp only [] at *
  generalize Vs.okVol ⟨name, set, pub, prep, app, n, dd, tm⟩ = R at *
  generalize Vs.textB (by_ set) = tb at *
  generalize Vs.isTime tm = it at *
  cases tb with
  | false =>
    have HV := Lib.hid (show R = false by rw [Bool.eq_false_iff]; intro h; exact absurd (HI.out.1 h).1 (by decide))
    clear HI
    go_enter Tryz.func61, Tryz.ntmps61
    go_wp2_with fail
    with_reducible refine (CX.out _ HT.out).mono ?_
    rintro e w2 ⟨rfl, hb2⟩
    have HB2 := Lib.hid (HB.out.trans (hb2.mono HB.out.size))
    clear hb2
    go_wp2_with fail
    go_ret
    rw [HV.out]
    exact ⟨rfl, HB2.out⟩
  | true =>
  have hcs : n < 1 ∨ (1 ≤ n ∧ 65535 < n) ∨ (1 ≤ n ∧ n ≤ 65535 ∧ dd < 1) ∨ (1 ≤ n ∧ n ≤ 65535 ∧ 1 ≤ dd ∧ 65535 < dd) ∨ (1 ≤ n ∧ n ≤ 65535 ∧ 1 ≤ dd ∧ dd ≤ 65535) := by omega
  rcases hcs with h | h | h | h | h
  case inr.inr.inr.inr =>
    have HV := Lib.hid (show R = it by
      rw [Bool.eq_iff_iff, HI.out]
      exact ⟨fun g => g.2.2.2.2.2, fun g => ⟨rfl, h.1, h.2.1, h.2.2.1, h.2.2.2, g⟩⟩)
    obtain ⟨h1, h2, h3, h4⟩ := h
    clear HI
    go_enter Tryz.func61, Tryz.ntmps61
    go_wp2_with fail
    with_reducible refine (CX.out _ HT.out).mono ?_
    rintro e w2 ⟨rfl, hb2⟩
    have HB2 := Lib.hid (HB.out.trans (hb2.mono HB.out.size))
    have hN2 := (hb2.block w.heap.size (by simp)).trans HN.out
    have c5 := cell_of_row _ _ 5 _ _ _ hN2
    have c6 := cell_of_row _ _ 6 _ _ _ hN2
    have c7 := cell_of_row _ _ 7 _ _ _ hN2
    simp only [List.getElem?_toArray, List.getElem?_cons_zero, List.getElem?_cons_succ] at c5 c6 c7
    clear hb2 hN2
    go_wp2_with fail
    with_reducible refine (CT.out _).mono ?_
    rintro e w3 ⟨rfl, hw⟩
    subst hw
    go_wp2_with fail
    go_ret
    rw [HV.out]
    exact ⟨rfl, HB2.out⟩
  all_goals
    have HV := Lib.hid (show R = false by rw [Bool.eq_false_iff]; intro g; have := HI.out.1 g; omega)
    clear HI
    go_enter Tryz.func61, Tryz.ntmps61
    go_wp2_with fail
    with_reducible refine (CX.out _ HT.out).mono ?_
    rintro e w2 ⟨rfl, hb2⟩
    have HB2 := Lib.hid (HB.out.trans (hb2.mono HB.out.size))
    have hN2 := (hb2.block w.heap.size (by simp)).trans HN.out
    have c5 := cell_of_row _ _ 5 _ _ _ hN2
    have c6 := cell_of_row _ _ 6 _ _ _ hN2
    simp only [List.getElem?_toArray, List.getElem?_cons_zero, List.getElem?_cons_succ] at c5 c6
    clear hb2 hN2
    try obtain ⟨h1, h2, h3, h4⟩ := h
    try obtain ⟨h1, h2, h3⟩ := h
    try obtain ⟨h1, h2⟩ := h
    go_wp2_with fail
    go_ret
    rw [HV.out]
    exact ⟨rfl, HB2.out⟩

set_option maxHeartbeats 3200000 in
set_option maxRecDepth 100000 in
/-- partition. -/
theorem vPart_any (p : Vs.Part) (w : World) : Calls Tryz.prog 62 #[.agg (Vs.partC p)] w fun e w' => e = .returned (.bool (Vs.okPart p)) ∧ Below w.heap.size w w' := by
  have C1 := Lib.hid (fun W => word_any p.access W)
  have C2 := Lib.hid (fun W => word_any p.start W)
  have C3 := Lib.hid (fun W => word_any p.count W)
  have C4 := Lib.hid (fun W => word_any p.bstart W)
  have HI := Lib.hid (Vs.okPart_iff p)
  have HB := Lib.hid ((Below.refl w.heap.size w).alloc (Nat.le_refl _) (.cells (Vs.partC p) 40))
  obtain ⟨n, a, s, c, bst, bc⟩ := p
  unfold Vs.partC at *
  simp only [] at *
  generalize Vs.okPart ⟨n, a, s, c, bst, bc⟩ = R at *
  generalize Vs.word a = b1 at *
  generalize Vs.word s = b2 at *
  generalize Vs.word c = b3 at *
  generalize Vs.word bst = b4 at *
  have hcs : (n < 0) ∨ (0 ≤ n ∧ 65535 < n) ∨ (0 ≤ n ∧ n ≤ 65535) := by omega
  have hcb : (bc < 0) ∨ (0 ≤ bc ∧ 524288 ≤ bc) ∨ (0 ≤ bc ∧ bc < 524288) := by omega
  rcases hcs with h | ⟨h, h2⟩ | ⟨h, h2⟩
  · have HV := Lib.hid (show R = false by rw [Bool.eq_false_iff]; intro g; have := HI.out.1 g; omega)
    clear HI hcb
    go_enter Tryz.func62, Tryz.ntmps62
    go_wp2_with fail
    go_ret
    rw [HV.out]
    exact ⟨rfl, HB.out⟩
  · have HV := Lib.hid (show R = false by rw [Bool.eq_false_iff]; intro g; have := HI.out.1 g; omega)
    clear HI hcb
    go_enter Tryz.func62, Tryz.ntmps62
    go_wp2_with fail
    go_ret
    rw [HV.out]
    exact ⟨rfl, HB.out⟩
  have HCB := Lib.hid hcb
  clear hcb
  cases b1 with
  | false =>
    have HV := Lib.hid (show R = false by rw [Bool.eq_false_iff]; intro g; exact absurd (HI.out.1 g).2.2.1 (by decide))
    clear HI
    go_enter Tryz.func62, Tryz.ntmps62
    go_wp2_with (with_reducible refine (C1.out _).mono ?_; rintro e w2 ⟨rfl, hw⟩; subst hw)
    go_ret
    rw [HV.out]
    exact ⟨rfl, HB.out⟩
  | true =>
  cases b2 with
  | false =>
    have HV := Lib.hid (show R = false by rw [Bool.eq_false_iff]; intro g; exact absurd (HI.out.1 g).2.2.2.1 (by decide))
    clear HI
    go_enter Tryz.func62, Tryz.ntmps62
    go_wp2_with (first | (with_reducible refine (C1.out _).mono ?_; rintro e w2 ⟨rfl, hw⟩; subst hw) | (with_reducible refine (C2.out _).mono ?_; rintro e w2 ⟨rfl, hw⟩; subst hw))
    go_ret
    rw [HV.out]
    exact ⟨rfl, HB.out⟩
  | true =>
  cases b3 with
  | false =>
    have HV := Lib.hid (show R = false by rw [Bool.eq_false_iff]; intro g; exact absurd (HI.out.1 g).2.2.2.2.1 (by decide))
    clear HI
    go_enter Tryz.func62, Tryz.ntmps62
    go_wp2_with (first | (with_reducible refine (C1.out _).mono ?_; rintro e w2 ⟨rfl, hw⟩; subst hw) | (with_reducible refine (C2.out _).mono ?_; rintro e w2 ⟨rfl, hw⟩; subst hw) | (with_reducible refine (C3.out _).mono ?_; rintro e w2 ⟨rfl, hw⟩; subst hw))
    go_ret
    rw [HV.out]
    exact ⟨rfl, HB.out⟩
  | true =>
  cases b4 with
  | false =>
    have HV := Lib.hid (show R = false by rw [Bool.eq_false_iff]; intro g; exact absurd (HI.out.1 g).2.2.2.2.2.1 (by decide))
    clear HI
    go_enter Tryz.func62, Tryz.ntmps62
    go_wp2_with (first | (with_reducible refine (C1.out _).mono ?_; rintro e w2 ⟨rfl, hw⟩; subst hw) | (with_reducible refine (C2.out _).mono ?_; rintro e w2 ⟨rfl, hw⟩; subst hw) | (with_reducible refine (C3.out _).mono ?_; rintro e w2 ⟨rfl, hw⟩; subst hw) | (with_reducible refine (C4.out _).mono ?_; rintro e w2 ⟨rfl, hw⟩; subst hw))
    go_ret
    rw [HV.out]
    exact ⟨rfl, HB.out⟩
  | true =>
  rcases HCB.out with g | ⟨g, g2⟩ | ⟨g, g2⟩
  case inr.inr =>
    have HV := Lib.hid (show R = true from HI.out.2 ⟨h, h2, rfl, rfl, rfl, rfl, g, g2⟩)
    clear HI
    go_enter Tryz.func62, Tryz.ntmps62
    go_wp2_with (first | (with_reducible refine (C1.out _).mono ?_; rintro e w2 ⟨rfl, hw⟩; subst hw) | (with_reducible refine (C2.out _).mono ?_; rintro e w2 ⟨rfl, hw⟩; subst hw) | (with_reducible refine (C3.out _).mono ?_; rintro e w2 ⟨rfl, hw⟩; subst hw) | (with_reducible refine (C4.out _).mono ?_; rintro e w2 ⟨rfl, hw⟩; subst hw))
    go_ret
    rw [HV.out]
    exact ⟨rfl, HB.out⟩
  all_goals
    have HV := Lib.hid (show R = false by rw [Bool.eq_false_iff]; intro g; have := (HI.out.1 g).2.2.2.2.2.2; omega)
    try have d2 : decide (bc < 524288) = false := decide_eq_false (by omega)
    clear HI
    go_enter Tryz.func62, Tryz.ntmps62
    go_wp2_with (first | (with_reducible refine (C1.out _).mono ?_; rintro e w2 ⟨rfl, hw⟩; subst hw) | (with_reducible refine (C2.out _).mono ?_; rintro e w2 ⟨rfl, hw⟩; subst hw) | (with_reducible refine (C3.out _).mono ?_; rintro e w2 ⟨rfl, hw⟩; subst hw) | (with_reducible refine (C4.out _).mono ?_; rintro e w2 ⟨rfl, hw⟩; subst hw))
    go_ret
    rw [HV.out]
    exact ⟨rfl, HB.out⟩

set_option maxHeartbeats 6400000 in
set_option maxRecDepth 100000 in
/-- logical. -/
theorem vLogical_any (d : Vs.D) (w : World) (hT : Lib.Utf8Tabs 1 2 w) (hs : d.vol.name.size ≤ 9223372036854775807) (ht : d.table.size ≤ 9223372036854775807) :
    Calls Tryz.prog 63 #[.agg (Vs.dC d)] w fun e w' => e = .returned (.bool (Vs.okLog d)) ∧ Below w.heap.size w w' := by
  have CE := Lib.hid (fun W v h => encodeLong_one v ⟨d.fk, d.fl, d.fb, d.fp⟩ W h)
  have HX := Lib.hid (fun W g hg => Vs.extOne W ⟨d.fk, d.fl, d.fb, d.fp⟩ g hg)
  rw [Vs.formed_x] at CE
  have CN := Lib.hid (fun W (h : Lib.Utf8Tabs 1 2 W) => vNamed_any d.vol.name W h hs)
  have CS := Lib.hid (fun W => span_any d.istart d.icount W)
  have HI := Lib.hid (Vs.okLog_iff d)
  have HB := Lib.hid ((Below.refl w.heap.size w).alloc (Nat.le_refl _) (.cells (Vs.dC d) 46))
  have HN := Lib.hid (heap_alloc_new w (.cells (Vs.dC d) 46))
  have HT := Lib.hid (Kit.tabs_below hT HB.out)
  clear hT
  obtain ⟨⟨name, set, pub, prep, app, n, dd, tm⟩, ⟨pn, pa, ps, pc, pbs, pbc⟩, maps, table, fk, fl, fb, fp, ist, ic⟩ := d
  unfold Vs.dC at *
  simp only [] at *
  generalize Vs.okLog ⟨⟨name, set, pub, prep, app, n, dd, tm⟩, ⟨pn, pa, ps, pc, pbs, pbc⟩, maps, table, fk, fl, fb, fp, ist, ic⟩ = R at *
  generalize Vs.namedB (by_ name) = nb at *
  generalize Vs.formed fk fl fb fp = fo at *
  generalize Vs.spanB ist ic = sb at *
  have hcs : (nb = false) ∨ (nb = true ∧ maps < 0) ∨ (nb = true ∧ 0 ≤ maps ∧ 65535 < maps) ∨ (nb = true ∧ 0 ≤ maps ∧ maps ≤ 65535 ∧ (1608 : Int) < (table.size : Int)) ∨ (nb = true ∧ 0 ≤ maps ∧ maps ≤ 65535 ∧ (table.size : Int) ≤ 1608 ∧ fo = false) ∨ (nb = true ∧ 0 ≤ maps ∧ maps ≤ 65535 ∧ (table.size : Int) ≤ 1608 ∧ fo = true) := by
    cases nb <;> cases fo <;> simp <;> omega
  have HCS := Lib.hid hcs
  have hts : (table.size : Int) ≤ 9223372036854775807 := by omega
  clear hcs
  go_enter Tryz.func63, Tryz.ntmps63
  go_wp2_with fail
  with_reducible refine (CE.out _ _ (HX.out (w.alloc (.cells #[.string name, .string set, .string pub, .string prep, .string app, .int .i64 n, .int .i64 dd, .int .i64 tm, .int .i64 pn, .int .i64 pa, .int .i64 ps, .int .i64 pc, .int .i64 pbs, .int .i64 pbc, .int .i64 maps, .string table, .int .i64 fk, .int .i64 fl, .int .i64 fb, .int .i64 fp, .int .i64 ist, .int .i64 ic] 46)) (w.heap.size + 1) (by simp))).mono ?_
  rintro e w2 ⟨s0, rfl, hb2⟩
  have hb2' := hb2.mono (B' := w.heap.size + 1) (by simp)
  have hbb := ((Below.refl (w.heap.size + 1) _).alloc (by simp) (.cells #[.int .i64 fk, .int .i64 fl, .int .i64 fb, .int .i64 fp] 44)).trans hb2'
  have HB2 := Lib.hid (HB.out.trans (hbb.mono (by simp)))
  have HN2 := Lib.hid ((hbb.block w.heap.size (by omega)).trans HN.out)
  have HT2 := Lib.hid (Kit.tabs_below HT.out (hbb.mono (by simp)))
  clear hb2 hb2' hbb
  have c0 := cell_of_row _ _ 0 _ _ _ HN2.out
  simp only [List.getElem?_toArray, List.getElem?_cons_zero] at c0
  generalize hee : (if fo = true then (0 : Int) else 1) = ee
  go_wp2_with fail
  with_reducible refine (CN.out _ HT2.out).mono ?_
  rintro e w3 ⟨rfl, hb3⟩
  have HB3 := Lib.hid (HB2.out.trans (hb3.mono HB2.out.size))
  have HN3 := Lib.hid ((hb3.block w.heap.size (Array.getElem?_eq_some_iff.1 HN2.out).1).trans HN2.out)
  clear hb3 c0
  have c14 := cell_of_row _ _ 14 _ _ _ HN3.out
  have c15 := cell_of_row _ _ 15 _ _ _ HN3.out
  have c20 := cell_of_row _ _ 20 _ _ _ HN3.out
  have c21 := cell_of_row _ _ 21 _ _ _ HN3.out
  simp only [List.getElem?_toArray, List.getElem?_cons_zero, List.getElem?_cons_succ] at c14 c15 c20 c21
  rcases HCS.out with h | ⟨h1, h2⟩ | ⟨h1, h2, h3⟩ | ⟨h1, h2, h3, h4⟩ | ⟨h1, h2, h3, h4, h5⟩ | ⟨h1, h2, h3, h4, h5⟩
  case inr.inr.inr.inr.inr =>
    subst h1 h5
    have HV := Lib.hid (show R = sb by
      rw [Bool.eq_iff_iff, HI.out]
      exact ⟨fun g => g.2.2.2.2.2, fun g => ⟨rfl, h2, h3, by omega, rfl, g⟩⟩)
    obtain rfl : ee = 0 := by rw [← hee]; rfl
    clear HI hee
    go_wp2_with fail
    with_reducible refine (CS.out _).mono ?_
    rintro e w4 ⟨rfl, hb4⟩
    have HB4 := Lib.hid (HB3.out.trans (hb4.mono HB3.out.size))
    clear hb4 c14 c15 c20 c21
    go_wp2_with fail
    go_ret
    rw [HV.out]
    exact ⟨rfl, HB4.out⟩
  case inr.inr.inr.inr.inl =>
    subst h1 h5
    have HV := Lib.hid (show R = false by rw [Bool.eq_false_iff]; intro g; exact absurd (HI.out.1 g).2.2.2.2.1 (by decide))
    obtain rfl : ee = 1 := by rw [← hee]; rfl
    clear HI hee
    go_wp2_with fail
    go_ret
    rw [HV.out]
    exact ⟨rfl, HB3.out⟩
  case inl =>
    subst h
    have HV := Lib.hid (show R = false by rw [Bool.eq_false_iff]; intro g; exact absurd (HI.out.1 g).1 (by decide))
    clear HI hee
    go_wp2_with fail
    go_ret
    rw [HV.out]
    exact ⟨rfl, HB3.out⟩
  all_goals
    subst h1
    have HV := Lib.hid (show R = false by rw [Bool.eq_false_iff]; intro g; have := HI.out.1 g; omega)
    clear HI hee
    go_wp2_with fail
    go_ret
    rw [HV.out]
    exact ⟨rfl, HB3.out⟩
end Go.Proofs.YthkppbimkjmbnaaGreatDoor

/-
  What the rows' list of package-level variables gives, and a world for the witnesses: the two tables of unicode/utf8.
-/
namespace Go.Proofs.YthkppbimkjmbnaaGreatDoor
open Go.RowKit
namespace Frame

theorem own : ownKnob Tryz.prog.godebug = none := by kernel_rfl
theorem laidOut : laidOutB Tryz.prog = true := by kernel_rfl

/-- What the rows list. -/
def laid : List (String × DataW Unit) := [("unicode/utf8.acceptRanges", Rows.laid_unicode_utf8_acceptRanges), ("unicode/utf8.first", Rows.laid_unicode_utf8_first)]

theorem u8 : U8Extra Tryz.prog Tryz.lays260_ren := {
  n3 := by kernel_rfl
  n4 := by kernel_rfl
  y3 := by kernel_rfl
  y4 := by kernel_rfl
  c5 := by kernel_rfl
  c119 := by kernel_rfl
  c138 := by kernel_rfl }

theorem e1 : (Rows.laid_unicode_utf8_acceptRanges : DataW Unit) = Lib.acceptData := by kernel_rfl
theorem e2 : (Rows.laid_unicode_utf8_first : DataW Unit) = Lib.firstData := by kernel_rfl

theorem tabs {W : World} (h : laidMetH Tryz.prog laid W) : Lib.Utf8Tabs 1 2 W := by
  have h' : laidMet Tryz.prog laid W := h
  unfold laid at h'
  rw [e1, e2] at h'
  exact utf8Tabs_of_reads Tryz.lays260 u8 (Lib.laidMet.reads h' (by simp)) (Lib.laidMet.reads h' (by simp))

/-- The tables' cells. -/
def firstCells : Array Value := ((List.range 256).map fun c => Value.int .u8 (Lib.firstT c : Nat)).toArray
def acceptCells : Array Value := ((List.range 16).flatMap fun i => [Value.int .u8 (Lib.accLo i : Nat), Value.int .u8 (Lib.accHi i : Nat)]).toArray

/-- A block's cells put in place of others. -/
def put (cs : Array Value) : Obj → Obj
  | .cells _ t frozen => .cells cs t frozen
  | o => o

/-- The settled world, the two tables holding what their initialisers lay. -/
noncomputable def world (os : Os) : World :=
  { World.holding Tryz.prog os ⟨#[], #[], []⟩ with heap := ((World.holding Tryz.prog os ⟨#[], #[], []⟩).heap.modify 1 (put firstCells)).modify 2 (put acceptCells) }
end Frame
end Go.Proofs.YthkppbimkjmbnaaGreatDoor

/-
  The cell of internal/bytealg.MaxLen, by the row's shape.
-/
namespace Go.Proofs.YthkppbimkjmbnaaGreatDoor
open Go.RowKit
namespace Frame
theorem maxlen {W : World} (h : W.ShapedOpen Tryz.prog) : ∃ m : Int, W.cell? ⟨0, 0, none⟩ = some (.int .i64 m) :=
  Go.Proofs.cell_of_shapedOpen_int (zero := #[.int .i64 0]) (t := 3) h (of_decide_eq_true (by kernel_rfl)) (by kernel_rfl) rfl (by kernel_rfl) (by kernel_rfl) Tryz.underlying3
end Frame
end Go.Proofs.YthkppbimkjmbnaaGreatDoor

/-
  Structs among the arguments of layer 36's laws, opened: descriptors, addresses, spans.
-/
namespace Go.Proofs.YthkppbimkjmbnaaGreatDoor
open Go.RowKit
namespace Frame
section
variable {H : Type} {enc : TypeId × Value → H} {w : World} {base : Nat} {spare : Nat → Bool} {held : Bool}
theorem i64_of_wf {z : Int} (h : (Lit.int .i64 z).wf = true) : -9223372036854775808 ≤ z ∧ z ≤ 9223372036854775807 := by
  have h' : (decide (IntKind.min .i64 ≤ z) && decide (z ≤ IntKind.max .i64)) = true := h
  rw [show IntKind.min .i64 = -9223372036854775808 from rfl, show IntKind.max .i64 = 9223372036854775807 from rfl, Bool.and_eq_true, decide_eq_true_eq, decide_eq_true_eq] at h'
  exact h'
/-- One field of a struct that reads: it reads. -/
theorem field {P : Program} {fs : Array Field} {t : TypeId} {fuel : Nat} {cs : List Value} {x : DataW H × List MemPlace} (ht : P.underlying t = some (.struct fs)) (h : DataW.trod enc P w base spare held fuel t cs = some x)
    (i off k : Nat) (ty : TypeId) (hf : (fs[i]?).map (fun f => (f.offset, f.type)) = some (off, ty)) (hk : P.cellsOf ty = k) : ∃ n y, DataW.trod enc P w base spare held n ty ((cs.drop off).take k) = some y := by
  obtain ⟨xs, n, _, _, _, hlen, hg⟩ := DataW.trod_struct ht h
  cases hfi : fs[i]? with
  | none => rw [hfi] at hf; cases hf
  | some f =>
    rw [hfi] at hf
    simp only [Option.map_some, Option.some.injEq, Prod.mk.injEq] at hf
    have hi : i < xs.length := by rw [hlen]; exact (Array.getElem?_eq_some_iff.1 hfi).1
    have h1 := hg i f hfi
    rw [hf.1, hf.2, hk, List.getElem?_eq_getElem hi] at h1
    exact ⟨n, _, h1⟩
theorem intAt {n : Nat} {c : Value} {y : DataW H × List MemPlace} (h : DataW.trod enc Tryz.prog w base spare held n 3 [c] = some y) : ∃ z : Int, c = .int .i64 z ∧ -9223372036854775808 ≤ z ∧ z ≤ 9223372036854775807 := by
  obtain ⟨z, hz, _, hwf⟩ := DataW.trod_int Tryz.underlying3 h
  simp only [List.cons.injEq, and_true] at hz
  exact ⟨z, hz, i64_of_wf hwf⟩
theorem strAt {n : Nat} {c : Value} {y : DataW H × List MemPlace} (h : DataW.trod enc Tryz.prog w base spare held n 9 [c] = some y) : ∃ s : ByteArray, c = .string s := by
  obtain ⟨s, hs, _, _⟩ := DataW.trod_string Tryz.underlying9 h
  simp only [List.cons.injEq, and_true] at hs
  exact ⟨s, hs⟩
/-- A struct of two ints that reads. -/
theorem twoAt {n : Nat} {t : TypeId} {fs : Array Field} {c0 c1 : Value} {x : DataW H × List MemPlace} (hs : Tryz.prog.underlying t = some (.struct fs)) (f0 : (fs[0]?).map (fun f => (f.offset, f.type)) = some (0, 3)) (f1 : (fs[1]?).map (fun f => (f.offset, f.type)) = some (1, 3))
    (h : DataW.trod enc Tryz.prog w base spare held n t [c0, c1] = some x) : ∃ y z : Int, c0 = .int .i64 y ∧ c1 = .int .i64 z ∧ (-9223372036854775808 ≤ y ∧ y ≤ 9223372036854775807) ∧ (-9223372036854775808 ≤ z ∧ z ≤ 9223372036854775807) := by
  have ki : Tryz.prog.cellsOf 3 = 1 := by kernel_rfl
  obtain ⟨_, _, h0⟩ := field hs h 0 0 1 3 f0 ki
  obtain ⟨_, _, h1⟩ := field hs h 1 1 1 3 f1 ki
  obtain ⟨y, rfl, hy⟩ := intAt h0
  obtain ⟨z, rfl, hz⟩ := intAt h1
  exact ⟨y, z, rfl, rfl, hy, hz⟩
set_option maxRecDepth 100000 in
/-- Descriptors that read. -/
theorem descAt {n : Nat} {c0 c1 c2 c3 c4 c5 c6 c7 c8 c9 c10 c11 c12 c13 c14 c15 c16 c17 c18 c19 c20 c21 : Value} {x : DataW H × List MemPlace} (h : DataW.trod enc Tryz.prog w base spare held n 46 [c0, c1, c2, c3, c4, c5, c6, c7, c8, c9, c10, c11, c12, c13, c14, c15, c16, c17, c18, c19, c20, c21] = some x) : ∃ d : Vs.D, [c0, c1, c2, c3, c4, c5, c6, c7, c8, c9, c10, c11, c12, c13, c14, c15, c16, c17, c18, c19, c20, c21] = (Vs.dC d).toList := by
  have ki : Tryz.prog.cellsOf 3 = 1 := by kernel_rfl
  have ks : Tryz.prog.cellsOf 9 = 1 := by kernel_rfl
  have kn : Tryz.prog.cellsOf 23 = 2 := by kernel_rfl
  have hs := Tryz.underlying46
  have hv := Tryz.underlying38
  have hp := Tryz.underlying40
  have he := Tryz.underlying44
  have hn := Tryz.underlying23
  have ha := Tryz.underlying42
  obtain ⟨_, _, h0⟩ := field hs h 0 0 8 38 (by rfl) (by kernel_rfl)
  obtain ⟨_, _, h1⟩ := field hs h 1 8 6 40 (by rfl) (by kernel_rfl)
  obtain ⟨_, _, h2⟩ := field hs h 2 14 1 3 (by rfl) ki
  obtain ⟨_, _, h3⟩ := field hs h 3 15 1 9 (by rfl) ks
  obtain ⟨_, _, h4⟩ := field hs h 4 16 4 44 (by rfl) (by kernel_rfl)
  obtain ⟨_, _, h5⟩ := field hs h 5 20 2 23 (by rfl) kn
  obtain ⟨_, _, v0⟩ := field hv h0 0 0 1 9 (by rfl) ks
  obtain ⟨_, _, v1⟩ := field hv h0 1 1 1 9 (by rfl) ks
  obtain ⟨_, _, v2⟩ := field hv h0 2 2 1 9 (by rfl) ks
  obtain ⟨_, _, v3⟩ := field hv h0 3 3 1 9 (by rfl) ks
  obtain ⟨_, _, v4⟩ := field hv h0 4 4 1 9 (by rfl) ks
  obtain ⟨_, _, v5⟩ := field hv h0 5 5 1 3 (by rfl) ki
  obtain ⟨_, _, v6⟩ := field hv h0 6 6 1 3 (by rfl) ki
  obtain ⟨_, _, v7⟩ := field hv h0 7 7 1 3 (by rfl) ki
  obtain ⟨_, _, p0⟩ := field hp h1 0 0 1 3 (by rfl) ki
  obtain ⟨_, _, p1⟩ := field hp h1 1 1 1 3 (by rfl) ki
  obtain ⟨_, _, p2⟩ := field hp h1 2 2 2 23 (by rfl) kn
  obtain ⟨_, _, p3⟩ := field hp h1 3 4 2 23 (by rfl) kn
  obtain ⟨_, _, e0⟩ := field he h4 0 0 1 3 (by rfl) ki
  obtain ⟨_, _, e1⟩ := field he h4 1 1 1 3 (by rfl) ki
  obtain ⟨_, _, e2⟩ := field he h4 2 2 2 42 (by rfl) (by kernel_rfl)
  obtain ⟨s0, rfl⟩ := strAt v0
  obtain ⟨s1, rfl⟩ := strAt v1
  obtain ⟨s2, rfl⟩ := strAt v2
  obtain ⟨s3, rfl⟩ := strAt v3
  obtain ⟨s4, rfl⟩ := strAt v4
  obtain ⟨z5, rfl, _⟩ := intAt v5
  obtain ⟨z6, rfl, _⟩ := intAt v6
  obtain ⟨z7, rfl, _⟩ := intAt v7
  obtain ⟨y0, rfl, _⟩ := intAt p0
  obtain ⟨y1, rfl, _⟩ := intAt p1
  obtain ⟨y2, y3, rfl, rfl, _⟩ := twoAt hn (by rfl) (by rfl) p2
  obtain ⟨y4, y5, rfl, rfl, _⟩ := twoAt hn (by rfl) (by rfl) p3
  obtain ⟨m, rfl, _⟩ := intAt h2
  obtain ⟨t, rfl⟩ := strAt h3
  obtain ⟨k0, rfl, _⟩ := intAt e0
  obtain ⟨k1, rfl, _⟩ := intAt e1
  obtain ⟨k2, k3, rfl, rfl, _⟩ := twoAt ha (by rfl) (by rfl) e2
  obtain ⟨i0, i1, rfl, rfl, _⟩ := twoAt hn (by rfl) (by rfl) h5
  exact ⟨⟨⟨s0, s1, s2, s3, s4, z5, z6, z7⟩, ⟨y0, y1, y2, y3, y4, y5⟩, m, t, k0, k1, k2, k3, i0, i1⟩, rfl⟩
end
theorem uncons {l : List Value} {n : Nat} (h : l.length = n + 1) : ∃ a t, l = a :: t ∧ t.length = n := by
  cases l with
  | nil => cases h
  | cons a t => exact ⟨a, t, rfl, by simpa using h⟩
theorem arr22 {cs : Array Value} (h : cs.size = 22) : ∃ c0 c1 c2 c3 c4 c5 c6 c7 c8 c9 c10 c11 c12 c13 c14 c15 c16 c17 c18 c19 c20 c21, cs = #[c0, c1, c2, c3, c4, c5, c6, c7, c8, c9, c10, c11, c12, c13, c14, c15, c16, c17, c18, c19, c20, c21] := by
  obtain ⟨l⟩ := cs
  have hl : l.length = 22 := by simpa using h
  clear h
  obtain ⟨c0, l0, rfl, k0⟩ := uncons hl
  obtain ⟨c1, l1, rfl, k1⟩ := uncons k0
  obtain ⟨c2, l2, rfl, k2⟩ := uncons k1
  obtain ⟨c3, l3, rfl, k3⟩ := uncons k2
  obtain ⟨c4, l4, rfl, k4⟩ := uncons k3
  obtain ⟨c5, l5, rfl, k5⟩ := uncons k4
  obtain ⟨c6, l6, rfl, k6⟩ := uncons k5
  obtain ⟨c7, l7, rfl, k7⟩ := uncons k6
  obtain ⟨c8, l8, rfl, k8⟩ := uncons k7
  obtain ⟨c9, l9, rfl, k9⟩ := uncons k8
  obtain ⟨c10, l10, rfl, k10⟩ := uncons k9
  obtain ⟨c11, l11, rfl, k11⟩ := uncons k10
  obtain ⟨c12, l12, rfl, k12⟩ := uncons k11
  obtain ⟨c13, l13, rfl, k13⟩ := uncons k12
  obtain ⟨c14, l14, rfl, k14⟩ := uncons k13
  obtain ⟨c15, l15, rfl, k15⟩ := uncons k14
  obtain ⟨c16, l16, rfl, k16⟩ := uncons k15
  obtain ⟨c17, l17, rfl, k17⟩ := uncons k16
  obtain ⟨c18, l18, rfl, k18⟩ := uncons k17
  obtain ⟨c19, l19, rfl, k19⟩ := uncons k18
  obtain ⟨c20, l20, rfl, k20⟩ := uncons k19
  obtain ⟨c21, l21, rfl, k21⟩ := uncons k20
  obtain rfl : l21 = [] := List.eq_nil_of_length_eq_zero k21
  exact ⟨c0, c1, c2, c3, c4, c5, c6, c7, c8, c9, c10, c11, c12, c13, c14, c15, c16, c17, c18, c19, c20, c21, rfl⟩
theorem arr2 {cs : Array Value} (h : cs.size = 2) : ∃ c0 c1, cs = #[c0, c1] := by
  obtain ⟨l⟩ := cs
  have hl : l.length = 2 := by simpa using h
  match l, hl with
  | [c0, c1], _ => exact ⟨c0, c1, rfl⟩
set_option maxRecDepth 100000 in
theorem open_desc {H : Type} {enc : TypeId × Value → H} {base : Nat} (W : World) (v : Value) (d : DataW H) (p : List MemPlace) (hval : Value.okWide Tryz.prog W .any base 46 v)
    (h : DataW.Trod enc Tryz.prog W 0 (fun _ => true) true 46 v d p) : ∃ D : Vs.D, v = .agg (Vs.dC D) := by
  obtain ⟨cs, rfl, hsz⟩ := Go.WideShapes.okWide_struct Tryz.underlying46 hval
  obtain ⟨c0, c1, c2, c3, c4, c5, c6, c7, c8, c9, c10, c11, c12, c13, c14, c15, c16, c17, c18, c19, c20, c21, rfl⟩ := arr22 (hsz.trans (show Tryz.prog.cellsOf 46 = 22 by kernel_rfl))
  obtain ⟨fuel, hf⟩ := h
  have hf' : DataW.trod enc Tryz.prog W 0 (fun _ => true) true fuel 46 [c0, c1, c2, c3, c4, c5, c6, c7, c8, c9, c10, c11, c12, c13, c14, c15, c16, c17, c18, c19, c20, c21] = some (d, p) := hf
  obtain ⟨D, hD⟩ := descAt hf'
  exact ⟨D, congrArg Value.agg (by rw [← Array.toArray_toList (xs := Vs.dC D), ← hD])⟩
set_option maxRecDepth 100000 in
theorem open_two {H : Type} {enc : TypeId × Value → H} {base : Nat} {t : TypeId} {fs : Array Field} (hs : Tryz.prog.underlying t = some (.struct fs)) (f0 : (fs[0]?).map (fun f => (f.offset, f.type)) = some (0, 3)) (f1 : (fs[1]?).map (fun f => (f.offset, f.type)) = some (1, 3)) (hc : Tryz.prog.cellsOf t = 2) (W : World) (v : Value) (d : DataW H) (p : List MemPlace) (hval : Value.okWide Tryz.prog W .any base t v)
    (h : DataW.Trod enc Tryz.prog W 0 (fun _ => true) true t v d p) : ∃ y z : Int, v = .agg #[.int .i64 y, .int .i64 z] ∧ (-9223372036854775808 ≤ y ∧ y ≤ 9223372036854775807) ∧ (-9223372036854775808 ≤ z ∧ z ≤ 9223372036854775807) := by
  obtain ⟨cs, rfl, hsz⟩ := Go.WideShapes.okWide_struct hs hval
  obtain ⟨c0, c1, rfl⟩ := arr2 (hsz.trans hc)
  obtain ⟨fuel, hf⟩ := h
  have hf' : DataW.trod enc Tryz.prog W 0 (fun _ => true) true fuel t [c0, c1] = some (d, p) := hf
  obtain ⟨y, z, rfl, rfl, hy, hz⟩ := twoAt hs f0 f1 hf'
  exact ⟨y, z, rfl, hy, hz⟩
set_option maxRecDepth 100000 in
theorem open_span {H : Type} {enc : TypeId × Value → H} {base : Nat} (W : World) (v : Value) (d : DataW H) (p : List MemPlace) (hval : Value.okWide Tryz.prog W .any base 23 v)
    (h : DataW.Trod enc Tryz.prog W 0 (fun _ => true) true 23 v d p) : ∃ y z : Int, v = .agg #[.int .i64 y, .int .i64 z] ∧ (-9223372036854775808 ≤ y ∧ y ≤ 9223372036854775807) ∧ (-9223372036854775808 ≤ z ∧ z ≤ 9223372036854775807) :=
  open_two Tryz.underlying23 (by rfl) (by rfl) (by kernel_rfl) W v d p hval h
set_option maxRecDepth 100000 in
theorem open_address {H : Type} {enc : TypeId × Value → H} {base : Nat} (W : World) (v : Value) (d : DataW H) (p : List MemPlace) (hval : Value.okWide Tryz.prog W .any base 42 v)
    (h : DataW.Trod enc Tryz.prog W 0 (fun _ => true) true 42 v d p) : ∃ y z : Int, v = .agg #[.int .i64 y, .int .i64 z] ∧ (-9223372036854775808 ≤ y ∧ y ≤ 9223372036854775807) ∧ (-9223372036854775808 ≤ z ∧ z ≤ 9223372036854775807) :=
  open_two Tryz.underlying42 (by rfl) (by rfl) (by kernel_rfl) W v d p hval h
end Frame
end Go.Proofs.YthkppbimkjmbnaaGreatDoor

/-
  The map of the prevailing descriptors: made, looked up, stored into.
-/
namespace Go.Proofs.YthkppbimkjmbnaaGreatDoor
open Go.RowKit Go.Maps
namespace Vs
/-- A map's elements, read as they are. -/
def asIs (v : Value) : Option (DataW Value × List MemPlace) := some (.held v, [])
/-- A descriptor that prevails, as a value. -/
def pvC (b : ByteArray) (i s : Int) : Array Value := #[.string b, .int .i64 i, .int .i64 s]
def pvV : Option Pv → Value
  | none => .agg (pvC ⟨#[]⟩ 0 0)
  | some x => .agg (pvC x.block x.index x.seq)
theorem keyedI : Keyed Tryz.prog 3 := int_keyed Tryz.underlying3
/-- Block mb is the map of f. -/
structure PMap (W : World) (mb n : Nat) (f : Int → Option Pv) : Prop where
  ex : ∃ D, W.ownsMap Tryz.prog 3 asIs mb n D ∧ (∀ k, D.atKey (.int .i64 k) (.held (pvV none)) = .held (pvV (f k))) ∧ ∀ k, has D (.int .i64 k) = (f k).isSome
theorem PMap.made (W : World) : PMap (W.alloc (.map #[] 0)) W.heap.size 0 (fun _ => none) := ⟨.map [], World.ownsMap_made _ _ _ _, fun _ => rfl, fun _ => rfl⟩
theorem PMap.lt {W : World} {mb n : Nat} {f : Int → Option Pv} (h : PMap W mb n f) : mb < W.heap.size := by
  obtain ⟨D, h1, _⟩ := h.ex
  exact h1.lt
theorem PMap.grown {W W' : World} {mb n : Nat} {f : Int → Option Pv} {row : Option Nat} (h : PMap W mb n f) (hg : W.grownBy W' row) (hne : some mb ≠ row) : PMap W' mb n f := by
  obtain ⟨D, h1, h2, h3⟩ := h.ex
  exact ⟨D, h1.kept hg hne, h2, h3⟩
theorem PMap.below {W W' : World} {mb n : Nat} {f : Int → Option Pv} (h : PMap W mb n f) (hb : Below W.heap.size W W') : PMap W' mb n f := h.grown (Kit.grown_of_below hb) (by simp)
theorem PMap.look {W : World} {mb n : Nat} {f : Int → Option Pv} (h : PMap W mb n f) (k : Int) (hk : (Lit.int .i64 k).wf = true) :
    (Instr.lookup 102 (.map (some mb)) (.int .i64 k) true).run Tryz.prog W = .ok (.tuple #[pvV (f k), .bool (f k).isSome]) W := by
  obtain ⟨D, h1, h2, h3⟩ := h.ex
  obtain ⟨v, ps, hrun, hv⟩ := World.ownsMap.look_ok h1 keyedI Tryz.underlying102 (by kernel_rfl : (zeroValue 109).run Tryz.prog W = .ok (pvV none) W) (show asIs (pvV none) = some (.held (pvV none), []) from rfl) (keyOf_int_mk Tryz.underlying3 hk)
  rw [hrun, h3]
  rw [h2] at hv
  unfold asIs at hv
  simp only [Option.some.injEq, Prod.mk.injEq, DataW.held.injEq] at hv
  rw [hv.1]
theorem PMap.look1 {W : World} {mb n : Nat} {f : Int → Option Pv} (h : PMap W mb n f) (k : Int) (hk : (Lit.int .i64 k).wf = true) :
    (Instr.lookup 102 (.map (some mb)) (.int .i64 k) false).run Tryz.prog W = .ok (pvV (f k)) W := by
  obtain ⟨D, h1, h2, h3⟩ := h.ex
  obtain ⟨v, ps, hrun, hv⟩ := World.ownsMap.lookup h1 keyedI Tryz.underlying102 (by kernel_rfl : (zeroValue 109).run Tryz.prog W = .ok (pvV none) W) (show asIs (pvV none) = some (.held (pvV none), []) from rfl) (keyOf_int_mk Tryz.underlying3 hk)
  rw [hrun]
  rw [h2] at hv
  unfold asIs at hv
  simp only [Option.some.injEq, Prod.mk.injEq, DataW.held.injEq] at hv
  rw [hv.1]
/-- A store: what the walk asks for, and what it leaves. -/
theorem PMap.put {W : World} {mb n : Nat} {f : Int → Option Pv} (h : PMap W mb n f) (id : Int) (x : Pv) : ∃ D, W.ownsMap Tryz.prog 3 asIs mb n D ∧
    ∀ W', W'.ownsMap Tryz.prog 3 asIs mb (n + 1) (D.put (.int .i64 id) (.held (pvV (some x)))) → PMap W' mb (n + 1) (fun j => if j = id then some x else f j) := by
  obtain ⟨D, h1, h2, h3⟩ := h.ex
  have hD := World.ownsMap.isMap h1
  refine ⟨D, h1, fun W' ho => ⟨_, ho, fun k => ?_, fun k => ?_⟩⟩
  · by_cases hk : k = id
    · subst hk
      rw [if_pos rfl]
      exact atKey_put_same hD (show WideAt.IsKeyLit (.int .i64 k) from trivial) _ _
    · rw [if_neg hk, atKey_put_other (fun e => hk (by injection e)) _ _]
      exact h2 k
  · by_cases hk : k = id
    · subst hk
      rw [if_pos rfl]
      exact has_put_same hD (show WideAt.IsKeyLit (.int .i64 k) from trivial) _
    · rw [if_neg hk, has_put_other (fun e => hk (by injection e)) _]
      exact h3 k
end Vs
end Go.Proofs.YthkppbimkjmbnaaGreatDoor

/-
  Plain: integrity descriptors; no program in sight.
-/
namespace Go.Proofs.YthkppbimkjmbnaaGreatDoor
namespace Vs
open Pm (le num at_ le_len num_le num_lt)
/-- What an integrity descriptor contains. -/
structure In where
  time : Int
  closed : Bool
  unique : Int
  free : List Int
  size : List Int
  files : Int
  folders : Int
def i0 : In := ⟨0, false, 0, [], [], 0, 0⟩
def okIn (i : In) : Bool := isTime i.time && (decide (i.free.length = i.size.length) && (decide (i.free.length ≤ 8) && (i.free ++ (i.size ++ [i.files, i.folders, i.unique])).all word))
theorem okIn_iff (i : In) : okIn i = true ↔ isTime i.time = true ∧ i.free.length = i.size.length ∧ i.free.length ≤ 8 ∧ (∀ x ∈ i.free, word x = true) ∧ (∀ x ∈ i.size, word x = true) ∧ word i.files = true ∧ word i.folders = true ∧ word i.unique = true := by
  simp only [okIn, Bool.and_eq_true, decide_eq_true_eq, List.all_append, List.all_eq_true, List.all_cons, List.all_nil, Bool.and_true]
def w4 (l : List Int) : List UInt8 := l.flatMap n4
theorem w4_len (l : List Int) : (w4 l).length = 4 * l.length := by
  induction l with
  | nil => rfl
  | cons a t ih =>
    have : w4 (a :: t) = n4 a ++ w4 t := rfl
    rw [this, List.length_append, n4_len, ih, List.length_cons]
    omega
theorem w4_app (a b : List Int) : w4 (a ++ b) = w4 a ++ w4 b := List.flatMap_append
theorem w4_snoc (l : List Int) (x : Int) : w4 (l ++ [x]) = w4 l ++ n4 x := by rw [w4_app]; simp [w4]
theorem w4_at : ∀ (l : List Int) (k : Nat), k < l.length → sl (w4 l) (4 * k) 4 = n4 (l.getD k 0)
  | [], k, h => by simp at h
  | a :: t, 0, _ => by
    show sl (n4 a ++ w4 t) 0 4 = n4 a
    exact hd (n4_len a)
  | a :: t, k + 1, h => by
    show sl (n4 a ++ w4 t) (4 * (k + 1)) 4 = _
    rw [sk (n4_len a) (by omega) (w4_at t k (by simpa using h))]
    rfl
def tailI (i : In) : List UInt8 := w4 (i.free ++ i.size) ++ (implL ++ (n4 i.files ++ (n4 i.folders ++ (n2 513 ++ (n2 513 ++ n2 513)))))
def inL (i : In) : List UInt8 := stampR i.time ++ (n4 (if i.closed = true then 1 else 0) ++ (z 8 ++ (le 8 i.unique.toNat ++ (z 24 ++ (n4 i.free.length ++ (n4 46 ++ tailI i))))))
theorem tailI_len (i : In) : (tailI i).length = 4 * (i.free.length + i.size.length) + 46 := by
  unfold tailI
  simp only [List.length_append, w4_len, impl_len, n4_len, n2_len]
def integR (i : In) (loc : Int) : List UInt8 × Int := if word loc = true then (if okIn i = true then (blk 9 1 loc.toNat (inL i), 0) else ([], 1)) else ([], 2)
def nIn (b : List UInt8) : Nat := at_ b 72 4
def pinV (b : List UInt8) : In := ⟨(readSR (sl b 16 12)).1.1, decide (at_ b 28 4 = 1), (at_ b 40 8 : Nat), (List.range (nIn b)).map (fun k => ((at_ b (80 + 4 * k) 4 : Nat) : Int)), (List.range (nIn b)).map (fun k => ((at_ b (80 + 4 * (nIn b + k)) 4 : Nat) : Int)), if 46 ≤ at_ b 76 4 then (at_ b (80 + 8 * nIn b + 32) 4 : Nat) else 0, if 46 ≤ at_ b 76 4 then (at_ b (80 + 8 * nIn b + 36) 4 : Nat) else 0⟩
def pinR (b : List UInt8) (loc : Int) : In × Int :=
  if isB b 9 loc = true then (if (readSR (sl b 16 12)).2 = 0 ∧ at_ b 40 8 < 4294967296 ∧ nIn b ≤ 8 then (pinV b, 0) else (i0, 10)) else (i0, 10)
theorem in_at (i : In) (ht : (stampR i.time).length = 12) (hl : i.free.length = i.size.length) : (inL i).length = 110 + 8 * i.free.length ∧
    sl (inL i) 0 12 = stampR i.time ∧
    sl (inL i) 12 4 = n4 (if i.closed = true then 1 else 0) ∧
    sl (inL i) 24 8 = le 8 i.unique.toNat ∧
    sl (inL i) 56 4 = n4 i.free.length ∧
    sl (inL i) 60 4 = n4 46 ∧
    (∀ k, k < i.free.length → sl (inL i) (64 + 4 * k) 4 = n4 (i.free.getD k 0)) ∧
    (∀ k, k < i.size.length → sl (inL i) (64 + 4 * (i.free.length + k)) 4 = n4 (i.size.getD k 0)) ∧
    sl (inL i) (64 + 8 * i.free.length + 32) 4 = n4 i.files ∧
    sl (inL i) (64 + 8 * i.free.length + 36) 4 = n4 i.folders := by
  have hw : (w4 (i.free ++ i.size)).length = 8 * i.free.length := by rw [w4_len, List.length_append]; omega
  have skip : ∀ {a b n : Nat} {r : List UInt8}, a = b + 64 → sl (tailI i) b n = r → sl (inL i) a n = r := by
    intro a b n r hb h
    unfold inL
    exact sk ht (b := b + 52) (by omega) (sk (n4_len _) (b := b + 48) (by omega) (sk (z_len _) (b := b + 40) (by omega) (sk (le_len _ _) (b := b + 32) (by omega) (sk (z_len _) (b := b + 8) (by omega) (sk (n4_len _) (b := b + 4) (by omega) (sk (n4_len _) (b := b) (by omega) h))))))
  refine ⟨?_, ?_, ?_, ?_, ?_, ?_, ?_, ?_, ?_, ?_⟩
  · unfold inL
    simp only [List.length_append, n4_len, z_len, le_len, ht, tailI_len]
    omega
  · exact hd ht
  · exact sk ht rfl (hd (n4_len _))
  · exact sk ht rfl (sk (n4_len _) rfl (sk (z_len _) rfl (hd (le_len _ _))))
  · exact sk ht rfl (sk (n4_len _) rfl (sk (z_len _) rfl (sk (le_len _ _) rfl (sk (z_len _) rfl (hd (n4_len _))))))
  · exact sk ht rfl (sk (n4_len _) rfl (sk (z_len _) rfl (sk (le_len _ _) rfl (sk (z_len _) rfl (sk (n4_len _) rfl (hd (n4_len _)))))))
  · intro k hk
    refine skip (b := 4 * k) (by omega) ?_
    unfold tailI
    rw [sl_left (by rw [hw]; omega), w4_at _ _ (by rw [List.length_append]; omega)]
    simp only [List.getD_eq_getElem?_getD, List.getElem?_append_left hk]
  · intro k hk
    refine skip (b := 4 * (i.free.length + k)) (by omega) ?_
    unfold tailI
    rw [sl_left (by rw [hw]; omega), w4_at _ _ (by rw [List.length_append]; omega)]
    simp only [List.getD_eq_getElem?_getD]
    rw [List.getElem?_append_right (by omega), Nat.add_sub_cancel_left]
  · refine skip (b := 8 * i.free.length + 32) (by omega) ?_
    unfold tailI
    exact sk hw (b := 32) (by omega) (sk impl_len (b := 0) rfl (hd (n4_len _)))
  · refine skip (b := 8 * i.free.length + 36) (by omega) ?_
    unfold tailI
    exact sk hw (b := 36) (by omega) (sk impl_len (b := 4) rfl (sk (n4_len _) (b := 0) rfl (hd (n4_len _))))
theorem range_getD (l : List Int) : (List.range l.length).map (fun k => l.getD k 0) = l := by
  apply List.ext_getElem (by simp)
  intro i h1 h2
  simp [List.getElem?_eq_getElem h2]
theorem in_len {i : In} (h : okIn i = true) : (inL i).length = 110 + 8 * i.free.length ∧ i.free.length ≤ 8 := by
  obtain ⟨h1, h2, h3, _⟩ := (okIn_iff i).1 h
  exact ⟨(in_at i (stampR_len h1) h2).1, h3⟩
theorem pin_integ {i : In} {loc : Nat} (hl : loc < 4294967296) (h : okIn i = true) : pinR (blk 9 1 loc (inL i)) loc = (i, 0) := by
  obtain ⟨h1, h2, h3, h4, h5, h6, h7, h8⟩ := (okIn_iff i).1 h
  rw [word_iff] at h6 h7 h8
  obtain ⟨k, e1, e2, e3, e4, e5, e6, e7, e8, e9⟩ := in_at i (stampR_len h1) h2
  have x1 := (blk_sl (id := 9) (ser := 1) (loc := loc) (body := inL i) (a := 0) (b := 16) (n := 12) rfl (by omega)).trans e1
  have x2 := at4 (id := 9) (ser := 1) (loc := loc) (body := inL i) (a := 12) (b := 28) rfl (by omega) e2 (by split <;> decide) (by split <;> decide)
  have x4 := at4 (id := 9) (ser := 1) (loc := loc) (body := inL i) (a := 56) (b := 72) rfl (by omega) e4 (by omega) (by omega)
  have x5 := at4 (id := 9) (ser := 1) (loc := loc) (body := inL i) (a := 60) (b := 76) rfl (by omega) e5 (by omega) (by omega)
  have hn : nIn (blk 9 1 loc (inL i)) = i.free.length := by unfold nIn; omega
  have x3 : at_ (blk 9 1 loc (inL i)) 40 8 = i.unique.toNat := by
    rw [at_sl, blk_sl (a := 24) rfl (by omega), e3, num_le 8 _ (by omega)]
  have x6 : ∀ j, j < i.free.length → ((at_ (blk 9 1 loc (inL i)) (80 + 4 * j) 4 : Nat) : Int) = i.free.getD j 0 := fun j hj => by
    have hm : i.free.getD j 0 ∈ i.free := by rw [List.getD_eq_getElem?_getD, List.getElem?_eq_getElem hj]; exact List.getElem_mem hj
    have hw := (word_iff _).1 (h4 _ hm)
    exact at4 (id := 9) (ser := 1) (loc := loc) (body := inL i) (a := 64 + 4 * j) (b := 80 + 4 * j) (by omega) (by omega) (e6 j hj) hw.1 hw.2
  have x7 : ∀ j, j < i.size.length → ((at_ (blk 9 1 loc (inL i)) (80 + 4 * (i.free.length + j)) 4 : Nat) : Int) = i.size.getD j 0 := fun j hj => by
    have hm : i.size.getD j 0 ∈ i.size := by rw [List.getD_eq_getElem?_getD, List.getElem?_eq_getElem hj]; exact List.getElem_mem hj
    have hw := (word_iff _).1 (h5 _ hm)
    exact at4 (id := 9) (ser := 1) (loc := loc) (body := inL i) (a := 64 + 4 * (i.free.length + j)) (b := 80 + 4 * (i.free.length + j)) (by omega) (by omega) (e7 j hj) hw.1 hw.2
  have x8 := at4 (id := 9) (ser := 1) (loc := loc) (body := inL i) (a := 64 + 8 * i.free.length + 32) (b := 80 + 8 * i.free.length + 32) (by omega) (by omega) e8 h6.1 h6.2
  have x9 := at4 (id := 9) (ser := 1) (loc := loc) (body := inL i) (a := 64 + 8 * i.free.length + 36) (b := 80 + 8 * i.free.length + 36) (by omega) (by omega) e9 h7.1 h7.2
  have hV : pinV (blk 9 1 loc (inL i)) = i := by
    unfold pinV
    rw [x1, x3, hn, if_pos (by omega), if_pos (by omega), x8, x9, read_stamp h1]
    have g1 : (List.range i.free.length).map (fun k => ((at_ (blk 9 1 loc (inL i)) (80 + 4 * k) 4 : Nat) : Int)) = i.free := by
      refine Eq.trans (List.map_congr_left fun j hj => x6 j (List.mem_range.1 hj)) (range_getD _)
    have g2 : (List.range i.free.length).map (fun k => ((at_ (blk 9 1 loc (inL i)) (80 + 4 * (i.free.length + k)) 4 : Nat) : Int)) = i.size := by
      rw [h2]
      rw [h2] at x7
      refine Eq.trans (List.map_congr_left fun j hj => x7 j (List.mem_range.1 hj)) (range_getD _)
    have g3 : decide (at_ (blk 9 1 loc (inL i)) 28 4 = 1) = i.closed := by
      cases hc : i.closed with
      | true =>
        rw [hc, if_pos rfl] at x2
        exact decide_eq_true (by omega)
      | false =>
        rw [hc, if_neg (by decide)] at x2
        exact decide_eq_false (by omega)
    rw [g1, g2, g3, show ((i.unique.toNat : Nat) : Int) = i.unique by omega]
  unfold pinR
  rw [isB_blk (id := 9) (I := 9) rfl (by decide) hl (by omega), if_pos rfl, hV, x1, x3, hn, read_stamp h1, if_pos ⟨rfl, by omega, h3⟩]
end Vs
end Go.Proofs.YthkppbimkjmbnaaGreatDoor

/-
  The walks through volumeseq's checks: volume, partition, logical.
-/
import Derived.Test.YthkppbimkjmbnaaGreatDoorZN
import Derived.Test.YthkppbimkjmbnaaGreatDoorCards
import Derived.Test.YthkppbimkjmbnaaGreatDoorTie
import Derived.Test.YthkppbimkjmbnaaGreatDoorShelf
import Derived.WalkKit
import Derived.ProofKit
import Derived.OpenShut
import Derived.ShutString
import Derived.ChangeOld
import Derived.Deep.DeepHandedRow
import Derived.Lib.LaidTab
import Derived.Lib.LaidU8
import Derived.Deep.Slices
import Derived.ChangeArms
import Derived.Carry
import Derived.Test.YthkppbimkjmbnaaGreatDoorZE
import Derived.Test.YthkppbimkjmbnaaGreatDoorZA
import Derived.Maps.OwnSet
import Derived.Maps.Views
import Derived.Test.YthkppbimkjmbnaaGreatDoorZK
namespace Go.Proofs.YthkppbimkjmbnaaGreatDoor
open Go.RowKit
open Vs (bs by_)
namespace Vs
/-- The cells of descriptors. -/
def volC (v : Vol) : Array Value := #[.string v.name, .string v.set, .string v.pub, .string v.prep, .string v.app, .int .i64 v.number, .int .i64 v.discs, .int .i64 v.time]
def partC (p : Part) : Array Value := #[.int .i64 p.number, .int .i64 p.access, .int .i64 p.start, .int .i64 p.count, .int .i64 p.bstart, .int .i64 p.bcount]
def dC (d : D) : Array Value := #[.string d.vol.name, .string d.vol.set, .string d.vol.pub, .string d.vol.prep, .string d.vol.app, .int .i64 d.vol.number, .int .i64 d.vol.discs, .int .i64 d.vol.time, .int .i64 d.part.number, .int .i64 d.part.access, .int .i64 d.part.start, .int .i64 d.part.count, .int .i64 d.part.bstart, .int .i64 d.part.bcount, .int .i64 d.maps, .string d.table, .int .i64 d.fk, .int .i64 d.fl, .int .i64 d.fb, .int .i64 d.fp, .int .i64 d.istart, .int .i64 d.icount]
end Vs

set_option maxHeartbeats 3200000 in
set_option maxRecDepth 100000 in
/-- volume. -/
theorem vVolume_any (v : Vs.Vol) (w : World) (hT : Lib.Utf8Tabs 1 2 w) (hs : v.set.size ≤ 9223372036854775807) :
    Calls Tryz.prog 61 #[.agg (Vs.volC v)] w fun e w' => e = .returned (.bool (Vs.okVol v)) ∧ Below w.heap.size w w' := by
  have CX := Lib.hid (fun W (h : Lib.Utf8Tabs 1 2 W) => vText_any v.set W h hs)
  have CT := Lib.hid (fun W => timed_any v.time W)
  have HI := Lib.hid (Vs.okVol_iff v)
  have HB := Lib.hid ((Below.refl w.heap.size w).alloc (Nat.le_refl _) (.cells (Vs.volC v) 38))
  have HN := Lib.hid (heap_alloc_new w (.cells (Vs.volC v) 38))
  have HT := Lib.hid (Kit.tabs_below hT HB.out)
  clear hT
  obtain ⟨name, set, pub, prep, app, n, dd, tm⟩ := v
  unfold Vs.volC at *
  simp only [] at *
  generalize Vs.okVol ⟨name, set, pub, prep, app, n, dd, tm⟩ = R at *
  generalize Vs.textB (by_ set) = tb at *
  generalize Vs.isTime tm = it at *
  cases tb with
  | false =>
    have HV := Lib.hid (show R = false by rw [Bool.eq_false_iff]; intro h; exact absurd (HI.out.1 h).1 (by decide))
    clear HI
    go_enter Tryz.func61, Tryz.ntmps61
    go_wp2_with fail
    with_reducible refine (CX.out _ HT.out).mono ?_
    rintro e w2 ⟨rfl, hb2⟩
    have HB2 := Lib.hid (HB.out.trans (hb2.mono HB.out.size))
    clear hb2
    go_wp2_with fail
    go_ret
    rw [HV.out]
    exact ⟨rfl, HB2.out⟩
  | true =>
  have hcs : n < 1 ∨ (1 ≤ n ∧ 65535 < n) ∨ (1 ≤ n ∧ n ≤ 65535 ∧ dd < 1) ∨ (1 ≤ n ∧ n ≤ 65535 ∧ 1 ≤ dd ∧ 65535 < dd) ∨ (1 ≤ n ∧ n ≤ 65535 ∧ 1 ≤ dd ∧ dd ≤ 65535) := by omega
  rcases hcs with h | h | h | h | h
  case inr.inr.inr.inr =>
    have HV := Lib.hid (show R = it by
      rw [Bool.eq_iff_iff, HI.out]
      exact ⟨fun g => g.2.2.2.2.2, fun g => ⟨rfl, h.1, h.2.1, h.2.2.1, h.2.2.2, g⟩⟩)
    obtain ⟨h1, h2, h3, h4⟩ := h
    clear HI
    go_enter Tryz.func61, Tryz.ntmps61
    go_wp2_with fail
    with_reducible refine (CX.out _ HT.out).mono ?_
    rintro e w2 ⟨rfl, hb2⟩
    have HB2 := Lib.hid (HB.out.trans (hb2.mono HB.out.size))
    have hN2 := (hb2.block w.heap.size (by simp)).trans HN.out
    have c5 := cell_of_row _ _ 5 _ _ _ hN2
    have c6 := cell_of_row _ _ 6 _ _ _ hN2
    have c7 := cell_of_row _ _ 7 _ _ _ hN2
    simp only [List.getElem?_toArray, List.getElem?_cons_zero, List.getElem?_cons_succ] at c5 c6 c7
    clear hb2 hN2
    go_wp2_with fail
    with_reducible refine (CT.out _).mono ?_
    rintro e w3 ⟨rfl, hw⟩
    subst hw
    go_wp2_with fail
    go_ret
    rw [HV.out]
    exact ⟨rfl, HB2.out⟩
  all_goals
    have HV := Lib.hid (show R = false by rw [Bool.eq_false_iff]; intro g; have := HI.out.1 g; omega)
    clear HI
    go_enter Tryz.func61, Tryz.ntmps61
    go_wp2_with fail
    with_reducible refine (CX.out _ HT.out).mono ?_
    rintro e w2 ⟨rfl, hb2⟩
    have HB2 := Lib.hid (HB.out.trans (hb2.mono HB.out.size))
    have hN2 := (hb2.block w.heap.size (by simp)).trans HN.out
    have c5 := cell_of_row _ _ 5 _ _ _ hN2
    have c6 := cell_of_row _ _ 6 _ _ _ hN2
    simp only [List.getElem?_toArray, List.getElem?_cons_zero, List.getElem?_cons_succ] at c5 c6
    clear hb2 hN2
    try obtain ⟨h1, h2, h3, h4⟩ := h
    try obtain ⟨h1, h2, h3⟩ := h
    try obtain ⟨h1, h2⟩ := h
    go_wp2_with fail
    go_ret
    rw [HV.out]
    exact ⟨rfl, HB2.out⟩

set_option maxHeartbeats 3200000 in
set_option maxRecDepth 100000 in
/-- partition. -/
theorem vPart_any (p : Vs.Part) (w : World) : Calls Tryz.prog 62 #[.agg (Vs.partC p)] w fun e w' => e = .returned (.bool (Vs.okPart p)) ∧ Below w.heap.size w w' := by
  have C1 := Lib.hid (fun W => word_any p.access W)
  have C2 := Lib.hid (fun W => word_any p.start W)
  have C3 := Lib.hid (fun W => word_any p.count W)
  have C4 := Lib.hid (fun W => word_any p.bstart W)
  have HI := Lib.hid (Vs.okPart_iff p)
  have HB := Lib.hid ((Below.refl w.heap.size w).alloc (Nat.le_refl _) (.cells (Vs.partC p) 40))
  obtain ⟨n, a, s, c, bst, bc⟩ := p
  unfold Vs.partC at *
  simp only [] at *
  generalize Vs.okPart ⟨n, a, s, c, bst, bc⟩ = R at *
  generalize Vs.word a = b1 at *
  generalize Vs.word s = b2 at *
  generalize Vs.word c = b3 at *
  generalize Vs.word bst = b4 at *
  have hcs : (n < 0) ∨ (0 ≤ n ∧ 65535 < n) ∨ (0 ≤ n ∧ n ≤ 65535) := by omega
  have hcb : (bc < 0) ∨ (0 ≤ bc ∧ 524288 ≤ bc) ∨ (0 ≤ bc ∧ bc < 524288) := by omega
  rcases hcs with h | ⟨h, h2⟩ | ⟨h, h2⟩
  · have HV := Lib.hid (show R = false by rw [Bool.eq_false_iff]; intro g; have := HI.out.1 g; omega)
    clear HI hcb
    go_enter Tryz.func62, Tryz.ntmps62
    go_wp2_with fail
    go_ret
    rw [HV.out]
    exact ⟨rfl, HB.out⟩
  · have HV := Lib.hid (show R = false by rw [Bool.eq_false_iff]; intro g; have := HI.out.1 g; omega)
    clear HI hcb
    go_enter Tryz.func62, Tryz.ntmps62
    go_wp2_with fail
    go_ret
    rw [HV.out]
    exact ⟨rfl, HB.out⟩
  have HCB := Lib.hid hcb
  clear hcb
  cases b1 with
  | false =>
    have HV := Lib.hid (show R = false by rw [Bool.eq_false_iff]; intro g; exact absurd (HI.out.1 g).2.2.1 (by decide))
    clear HI
    go_enter Tryz.func62, Tryz.ntmps62
    go_wp2_with (with_reducible refine (C1.out _).mono ?_; rintro e w2 ⟨rfl, hw⟩; subst hw)
    go_ret
    rw [HV.out]
    exact ⟨rfl, HB.out⟩
  | true =>
  cases b2 with
  | false =>
    have HV := Lib.hid (show R = false by rw [Bool.eq_false_iff]; intro g; exact absurd (HI.out.1 g).2.2.2.1 (by decide))
    clear HI
    go_enter Tryz.func62, Tryz.ntmps62
    go_wp2_with (first | (with_reducible refine (C1.out _).mono ?_; rintro e w2 ⟨rfl, hw⟩; subst hw) | (with_reducible refine (C2.out _).mono ?_; rintro e w2 ⟨rfl, hw⟩; subst hw))
    go_ret
    rw [HV.out]
    exact ⟨rfl, HB.out⟩
  | true =>
  cases b3 with
  | false =>
    have HV := Lib.hid (show R = false by rw [Bool.eq_false_iff]; intro g; exact absurd (HI.out.1 g).2.2.2.2.1 (by decide))
    clear HI
    go_enter Tryz.func62, Tryz.ntmps62
    go_wp2_with (first | (with_reducible refine (C1.out _).mono ?_; rintro e w2 ⟨rfl, hw⟩; subst hw) | (with_reducible refine (C2.out _).mono ?_; rintro e w2 ⟨rfl, hw⟩; subst hw) | (with_reducible refine (C3.out _).mono ?_; rintro e w2 ⟨rfl, hw⟩; subst hw))
    go_ret
    rw [HV.out]
    exact ⟨rfl, HB.out⟩
  | true =>
  cases b4 with
  | false =>
    have HV := Lib.hid (show R = false by rw [Bool.eq_false_iff]; intro g; exact absurd (HI.out.1 g).2.2.2.2.2.1 (by decide))
    clear HI
    go_enter Tryz.func62, Tryz.ntmps62
    go_wp2_with (first | (with_reducible refine (C1.out _).mono ?_; rintro e w2 ⟨rfl, hw⟩; subst hw) | (with_reducible refine (C2.out _).mono ?_; rintro e w2 ⟨rfl, hw⟩; subst hw) | (with_reducible refine (C3.out _).mono ?_; rintro e w2 ⟨rfl, hw⟩; subst hw) | (with_reducible refine (C4.out _).mono ?_; rintro e w2 ⟨rfl, hw⟩; subst hw))
    go_ret
    rw [HV.out]
    exact ⟨rfl, HB.out⟩
  | true =>
  rcases HCB.out with g | ⟨g, g2⟩ | ⟨g, g2⟩
  case inr.inr =>
    have HV := Lib.hid (show R = true from HI.out.2 ⟨h, h2, rfl, rfl, rfl, rfl, g, g2⟩)
    clear HI
    go_enter Tryz.func62, Tryz.ntmps62
    go_wp2_with (first | (with_reducible refine (C1.out _).mono ?_; rintro e w2 ⟨rfl, hw⟩; subst hw) | (with_reducible refine (C2.out _).mono ?_; rintro e w2 ⟨rfl, hw⟩; subst hw) | (with_reducible refine (C3.out _).mono ?_; rintro e w2 ⟨rfl, hw⟩; subst hw) | (with_reducible refine (C4.out _).mono ?_; rintro e w2 ⟨rfl, hw⟩; subst hw))
    go_ret
    rw [HV.out]
    exact ⟨rfl, HB.out⟩
  all_goals
    have HV := Lib.hid (show R = false by rw [Bool.eq_false_iff]; intro g; have := (HI.out.1 g).2.2.2.2.2.2; omega)
    try have d2 : decide (bc < 524288) = false := decide_eq_false (by omega)
    clear HI
    go_enter Tryz.func62, Tryz.ntmps62
    go_wp2_with (first | (with_reducible refine (C1.out _).mono ?_; rintro e w2 ⟨rfl, hw⟩; subst hw) | (with_reducible refine (C2.out _).mono ?_; rintro e w2 ⟨rfl, hw⟩; subst hw) | (with_reducible refine (C3.out _).mono ?_; rintro e w2 ⟨rfl, hw⟩; subst hw) | (with_reducible refine (C4.out _).mono ?_; rintro e w2 ⟨rfl, hw⟩; subst hw))
    go_ret
    rw [HV.out]
    exact ⟨rfl, HB.out⟩

set_option maxHeartbeats 6400000 in
set_option maxRecDepth 100000 in
/-- logical. -/
theorem vLogical_any (d : Vs.D) (w : World) (hT : Lib.Utf8Tabs 1 2 w) (hs : d.vol.name.size ≤ 9223372036854775807) (ht : d.table.size ≤ 9223372036854775807) :
    Calls Tryz.prog 63 #[.agg (Vs.dC d)] w fun e w' => e = .returned (.bool (Vs.okLog d)) ∧ Below w.heap.size w w' := by
  have CE := Lib.hid (fun W v h => encodeLong_one v ⟨d.fk, d.fl, d.fb, d.fp⟩ W h)
  have HX := Lib.hid (fun W g hg => Vs.extOne W ⟨d.fk, d.fl, d.fb, d.fp⟩ g hg)
  rw [Vs.formed_x] at CE
  have CN := Lib.hid (fun W (h : Lib.Utf8Tabs 1 2 W) => vNamed_any d.vol.name W h hs)
  have CS := Lib.hid (fun W => span_any d.istart d.icount W)
  have HI := Lib.hid (Vs.okLog_iff d)
  have HB := Lib.hid ((Below.refl w.heap.size w).alloc (Nat.le_refl _) (.cells (Vs.dC d) 46))
  have HN := Lib.hid (heap_alloc_new w (.cells (Vs.dC d) 46))
  have HT := Lib.hid (Kit.tabs_below hT HB.out)
  clear hT
  obtain ⟨⟨name, set, pub, prep, app, n, dd, tm⟩, ⟨pn, pa, ps, pc, pbs, pbc⟩, maps, table, fk, fl, fb, fp, ist, ic⟩ := d
  unfold Vs.dC at *
  simp only [] at *
  generalize Vs.okLog ⟨⟨name, set, pub, prep, app, n, dd, tm⟩, ⟨pn, pa, ps, pc, pbs, pbc⟩, maps, table, fk, fl, fb, fp, ist, ic⟩ = R at *
  generalize Vs.namedB (by_ name) = nb at *
  generalize Vs.formed fk fl fb fp = fo at *
  generalize Vs.spanB ist ic = sb at *
  have hcs : (nb = false) ∨ (nb = true ∧ maps < 0) ∨ (nb = true ∧ 0 ≤ maps ∧ 65535 < maps) ∨ (nb = true ∧ 0 ≤ maps ∧ maps ≤ 65535 ∧ (1608 : Int) < (table.size : Int)) ∨ (nb = true ∧ 0 ≤ maps ∧ maps ≤ 65535 ∧ (table.size : Int) ≤ 1608 ∧ fo = false) ∨ (nb = true ∧ 0 ≤ maps ∧ maps ≤ 65535 ∧ (table.size : Int) ≤ 1608 ∧ fo = true) := by
    cases nb <;> cases fo <;> simp <;> omega
  have HCS := Lib.hid hcs
  have hts : (table.size : Int) ≤ 9223372036854775807 := by omega
  clear hcs
  go_enter Tryz.func63, Tryz.ntmps63
  go_wp2_with fail
  with_reducible refine (CE.out _ _ (HX.out (w.alloc (.cells #[.string name, .string set, .string pub, .string prep, .string app, .int .i64 n, .int .i64 dd, .int .i64 tm, .int .i64 pn, .int .i64 pa, .int .i64 ps, .int .i64 pc, .int .i64 pbs, .int .i64 pbc, .int .i64 maps, .string table, .int .i64 fk, .int .i64 fl, .int .i64 fb, .int .i64 fp, .int .i64 ist, .int .i64 ic] 46)) (w.heap.size + 1) (by simp))).mono ?_
  rintro e w2 ⟨s0, rfl, hb2⟩
  have hb2' := hb2.mono (B' := w.heap.size + 1) (by simp)
  have hbb := ((Below.refl (w.heap.size + 1) _).alloc (by simp) (.cells #[.int .i64 fk, .int .i64 fl, .int .i64 fb, .int .i64 fp] 44)).trans hb2'
  have HB2 := Lib.hid (HB.out.trans (hbb.mono (by simp)))
  have HN2 := Lib.hid ((hbb.block w.heap.size (by omega)).trans HN.out)
  have HT2 := Lib.hid (Kit.tabs_below HT.out (hbb.mono (by simp)))
  clear hb2 hb2' hbb
  have c0 := cell_of_row _ _ 0 _ _ _ HN2.out
  simp only [List.getElem?_toArray, List.getElem?_cons_zero] at c0
  generalize hee : (if fo = true then (0 : Int) else 1) = ee
  go_wp2_with fail
  with_reducible refine (CN.out _ HT2.out).mono ?_
  rintro e w3 ⟨rfl, hb3⟩
  have HB3 := Lib.hid (HB2.out.trans (hb3.mono HB2.out.size))
  have HN3 := Lib.hid ((hb3.block w.heap.size (Array.getElem?_eq_some_iff.1 HN2.out).1).trans HN2.out)
  clear hb3 c0
  have c14 := cell_of_row _ _ 14 _ _ _ HN3.out
  have c15 := cell_of_row _ _ 15 _ _ _ HN3.out
  have c20 := cell_of_row _ _ 20 _ _ _ HN3.out
  have c21 := cell_of_row _ _ 21 _ _ _ HN3.out
  simp only [List.getElem?_toArray, List.getElem?_cons_zero, List.getElem?_cons_succ] at c14 c15 c20 c21
  rcases HCS.out with h | ⟨h1, h2⟩ | ⟨h1, h2, h3⟩ | ⟨h1, h2, h3, h4⟩ | ⟨h1, h2, h3, h4, h5⟩ | ⟨h1, h2, h3, h4, h5⟩
  case inr.inr.inr.inr.inr =>
    subst h1 h5
    have HV := Lib.hid (show R = sb by
      rw [Bool.eq_iff_iff, HI.out]
      exact ⟨fun g => g.2.2.2.2.2, fun g => ⟨rfl, h2, h3, by omega, rfl, g⟩⟩)
    obtain rfl : ee = 0 := by rw [← hee]; rfl
    clear HI hee
    go_wp2_with fail
    with_reducible refine (CS.out _).mono ?_
    rintro e w4 ⟨rfl, hb4⟩
    have HB4 := Lib.hid (HB3.out.trans (hb4.mono HB3.out.size))
    clear hb4 c14 c15 c20 c21
    go_wp2_with fail
    go_ret
    rw [HV.out]
    exact ⟨rfl, HB4.out⟩
  case inr.inr.inr.inr.inl =>
    subst h1 h5
    have HV := Lib.hid (show R = false by rw [Bool.eq_false_iff]; intro g; exact absurd (HI.out.1 g).2.2.2.2.1 (by decide))
    obtain rfl : ee = 1 := by rw [← hee]; rfl
    clear HI hee
    go_wp2_with fail
    go_ret
    rw [HV.out]
    exact ⟨rfl, HB3.out⟩
  case inl =>
    subst h
    have HV := Lib.hid (show R = false by rw [Bool.eq_false_iff]; intro g; exact absurd (HI.out.1 g).1 (by decide))
    clear HI hee
    go_wp2_with fail
    go_ret
    rw [HV.out]
    exact ⟨rfl, HB3.out⟩
  all_goals
    subst h1
    have HV := Lib.hid (show R = false by rw [Bool.eq_false_iff]; intro g; have := HI.out.1 g; omega)
    clear HI hee
    go_wp2_with fail
    go_ret
    rw [HV.out]
    exact ⟨rfl, HB3.out⟩
end Go.Proofs.YthkppbimkjmbnaaGreatDoor

/-
  What the rows' list of package-level variables gives, and a world for the witnesses: the two tables of unicode/utf8.
-/
namespace Go.Proofs.YthkppbimkjmbnaaGreatDoor
open Go.RowKit
namespace Frame

theorem own : ownKnob Tryz.prog.godebug = none := by kernel_rfl
theorem laidOut : laidOutB Tryz.prog = true := by kernel_rfl

/-- What the rows list. -/
def laid : List (String × DataW Unit) := [("unicode/utf8.acceptRanges", Rows.laid_unicode_utf8_acceptRanges), ("unicode/utf8.first", Rows.laid_unicode_utf8_first)]

theorem u8 : U8Extra Tryz.prog Tryz.lays260_ren := {
  n3 := by kernel_rfl
  n4 := by kernel_rfl
  y3 := by kernel_rfl
  y4 := by kernel_rfl
  c5 := by kernel_rfl
  c119 := by kernel_rfl
  c138 := by kernel_rfl }

theorem e1 : (Rows.laid_unicode_utf8_acceptRanges : DataW Unit) = Lib.acceptData := by kernel_rfl
theorem e2 : (Rows.laid_unicode_utf8_first : DataW Unit) = Lib.firstData := by kernel_rfl

theorem tabs {W : World} (h : laidMetH Tryz.prog laid W) : Lib.Utf8Tabs 1 2 W := by
  have h' : laidMet Tryz.prog laid W := h
  unfold laid at h'
  rw [e1, e2] at h'
  exact utf8Tabs_of_reads Tryz.lays260 u8 (Lib.laidMet.reads h' (by simp)) (Lib.laidMet.reads h' (by simp))

/-- The tables' cells. -/
def firstCells : Array Value := ((List.range 256).map fun c => Value.int .u8 (Lib.firstT c : Nat)).toArray
def acceptCells : Array Value := ((List.range 16).flatMap fun i => [Value.int .u8 (Lib.accLo i : Nat), Value.int .u8 (Lib.accHi i : Nat)]).toArray

/-- A block's cells put in place of others. -/
def put (cs : Array Value) : Obj → Obj
  | .cells _ t frozen => .cells cs t frozen
  | o => o

/-- The settled world, the two tables holding what their initialisers lay. -/
noncomputable def world (os : Os) : World :=
  { World.holding Tryz.prog os ⟨#[], #[], []⟩ with heap := ((World.holding Tryz.prog os ⟨#[], #[], []⟩).heap.modify 1 (put firstCells)).modify 2 (put acceptCells) }
end Frame
end Go.Proofs.YthkppbimkjmbnaaGreatDoor

/-
  The cell of internal/bytealg.MaxLen, by the row's shape.
-/
namespace Go.Proofs.YthkppbimkjmbnaaGreatDoor
open Go.RowKit
namespace Frame
theorem maxlen {W : World} (h : W.ShapedOpen Tryz.prog) : ∃ m : Int, W.cell? ⟨0, 0, none⟩ = some (.int .i64 m) :=
  Go.Proofs.cell_of_shapedOpen_int (zero := #[.int .i64 0]) (t := 3) h (of_decide_eq_true (by kernel_rfl)) (by kernel_rfl) rfl (by kernel_rfl) (by kernel_rfl) Tryz.underlying3
end Frame
end Go.Proofs.YthkppbimkjmbnaaGreatDoor

/-
  Structs among the arguments of layer 36's laws, opened: descriptors, addresses, spans.
-/
namespace Go.Proofs.YthkppbimkjmbnaaGreatDoor
open Go.RowKit
namespace Frame
section
variable {H : Type} {enc : TypeId × Value → H} {w : World} {base : Nat} {spare : Nat → Bool} {held : Bool}
/-- One field of a struct that reads: it reads. -/
theorem field {P : Program} {fs : Array Field} {t : TypeId} {fuel : Nat} {cs : List Value} {x : DataW H × List MemPlace} (ht : P.underlying t = some (.struct fs)) (h : DataW.trod enc P w base spare held fuel t cs = some x)
    (i off k : Nat) (ty : TypeId) (hf : (fs[i]?).map (fun f => (f.offset, f.type)) = some (off, ty)) (hk : P.cellsOf ty = k) : ∃ n y, DataW.trod enc P w base spare held n ty ((cs.drop off).take k) = some y := by
  obtain ⟨xs, n, _, _, _, hlen, hg⟩ := DataW.trod_struct ht h
  cases hfi : fs[i]? with
  | none => rw [hfi] at hf; cases hf
  | some f =>
    rw [hfi] at hf
    simp only [Option.map_some, Option.some.injEq, Prod.mk.injEq] at hf
    have hi : i < xs.length := by rw [hlen]; exact (Array.getElem?_eq_some_iff.1 hfi).1
    have h1 := hg i f hfi
    rw [hf.1, hf.2, hk, List.getElem?_eq_getElem hi] at h1
    exact ⟨n, _, h1⟩
theorem strAt {n : Nat} {c : Value} {y : DataW H × List MemPlace} (h : DataW.trod enc Tryz.prog w base spare held n 9 [c] = some y) : ∃ s : ByteArray, c = .string s := by
  obtain ⟨s, hs, _, _⟩ := DataW.trod_string Tryz.underlying9 h
  simp only [List.cons.injEq, and_true] at hs
  exact ⟨s, hs⟩
end
end Frame
end Go.Proofs.YthkppbimkjmbnaaGreatDoor

/-
  The map of the prevailing descriptors: made, looked up, stored into.
-/
namespace Go.Proofs.YthkppbimkjmbnaaGreatDoor
open Go.RowKit Go.Maps
namespace Vs
/-- A map's elements, read as they are. -/
def asIs (v : Value) : Option (DataW Value × List MemPlace) := some (.held v, [])
/-- A descriptor that prevails, as a value. -/
def pvC (b : ByteArray) (i s : Int) : Array Value := #[.string b, .int .i64 i, .int .i64 s]
def pvV : Option Pv → Value
  | none => .agg (pvC ⟨#[]⟩ 0 0)
  | some x => .agg (pvC x.block x.index x.seq)
theorem keyedI : Keyed Tryz.prog 3 := int_keyed Tryz.underlying3
structure PMap (W : World) (mb n : Nat) (f : Int → Option Pv) : Prop where
  ex : ∃ D, W.ownsMap Tryz.prog 3 asIs mb n D ∧ (∀ k, D.atKey (.int .i64 k) (.held (pvV none)) = .held (pvV (f k))) ∧ ∀ k, has D (.int .i64 k) = (f k).isSome
theorem PMap.made (W : World) : PMap (W.alloc (.map #[] 0)) W.heap.size 0 (fun _ => none) := ⟨.map [], World.ownsMap_made _ _ _ _, fun _ => rfl, fun _ => rfl⟩
theorem PMap.lt {W : World} {mb n : Nat} {f : Int → Option Pv} (h : PMap W mb n f) : mb < W.heap.size := by
  obtain ⟨D, h1, _⟩ := h.ex
  exact h1.lt
theorem PMap.grown {W W' : World} {mb n : Nat} {f : Int → Option Pv} {row : Option Nat} (h : PMap W mb n f) (hg : W.grownBy W' row) (hne : some mb ≠ row) : PMap W' mb n f := by
  obtain ⟨D, h1, h2, h3⟩ := h.ex
  exact ⟨D, h1.kept hg hne, h2, h3⟩
theorem PMap.below {W W' : World} {mb n : Nat} {f : Int → Option Pv} (h : PMap W mb n f) (hb : Below W.heap.size W W') : PMap W' mb n f := h.grown (Kit.grown_of_below hb) (by simp)
theorem PMap.look {W : World} {mb n : Nat} {f : Int → Option Pv} (h : PMap W mb n f) (k : Int) (hk : (Lit.int .i64 k).wf = true) :
    (Instr.lookup 102 (.map (some mb)) (.int .i64 k) true).run Tryz.prog W = .ok (.tuple #[pvV (f k), .bool (f k).isSome]) W := by
  obtain ⟨D, h1, h2, h3⟩ := h.ex
  obtain ⟨v, ps, hrun, hv⟩ := World.ownsMap.look_ok h1 keyedI Tryz.underlying102 (by kernel_rfl : (zeroValue 109).run Tryz.prog W = .ok (pvV none) W) (show asIs (pvV none) = some (.held (pvV none), []) from rfl) (keyOf_int_mk Tryz.underlying3 hk)
  rw [hrun, h3]
  rw [h2] at hv
  unfold asIs at hv
  simp only [Option.some.injEq, Prod.mk.injEq, DataW.held.injEq] at hv
  rw [hv.1]
theorem PMap.look1 {W : World} {mb n : Nat} {f : Int → Option Pv} (h : PMap W mb n f) (k : Int) (hk : (Lit.int .i64 k).wf = true) :
    (Instr.lookup 102 (.map (some mb)) (.int .i64 k) false).run Tryz.prog W = .ok (pvV (f k)) W := by
  obtain ⟨D, h1, h2, h3⟩ := h.ex
  obtain ⟨v, ps, hrun, hv⟩ := World.ownsMap.lookup h1 keyedI Tryz.underlying102 (by kernel_rfl : (zeroValue 109).run Tryz.prog W = .ok (pvV none) W) (show asIs (pvV none) = some (.held (pvV none), []) from rfl) (keyOf_int_mk Tryz.underlying3 hk)
  rw [hrun]
  rw [h2] at hv
  unfold asIs at hv
  simp only [Option.some.injEq, Prod.mk.injEq, DataW.held.injEq] at hv
  rw [hv.1]
/-- A store: what the walk asks for, and what it leaves. -/
theorem PMap.put {W : World} {mb n : Nat} {f : Int → Option Pv} (h : PMap W mb n f) (id : Int) (x : Pv) : ∃ D, W.ownsMap Tryz.prog 3 asIs mb n D ∧
    ∀ W', W'.ownsMap Tryz.prog 3 asIs mb (n + 1) (D.put (.int .i64 id) (.held (pvV (some x)))) → PMap W' mb (n + 1) (fun j => if j = id then some x else f j) := by
  obtain ⟨D, h1, h2, h3⟩ := h.ex
  have hD := World.ownsMap.isMap h1
  refine ⟨D, h1, fun W' ho => ⟨_, ho, fun k => ?_, fun k => ?_⟩⟩
  · by_cases hk : k = id
    · subst hk
      rw [if_pos rfl]
      exact atKey_put_same hD (show WideAt.IsKeyLit (.int .i64 k) from trivial) _ _
    · rw [if_neg hk, atKey_put_other (fun e => hk (by injection e)) _ _]
      exact h2 k
  · by_cases hk : k = id
    · subst hk
      rw [if_pos rfl]
      exact has_put_same hD (show WideAt.IsKeyLit (.int .i64 k) from trivial) _
    · rw [if_neg hk, has_put_other (fun e => hk (by injection e)) _]
      exact h3 k
end Vs
end Go.Proofs.YthkppbimkjmbnaaGreatDoor

/-
  Plain: integrity descriptors; no program in sight.
-/
namespace Go.Proofs.YthkppbimkjmbnaaGreatDoor
namespace Vs
open Pm (le num at_ le_len num_le num_lt)
structure In where
  time : Int
  closed : Bool
  unique : Int
  free : List Int
  size : List Int
  files : Int
  folders : Int
def i0 : In := ⟨0, false, 0, [], [], 0, 0⟩
def w4 (l : List Int) : List UInt8 := l.flatMap n4
end Vs
end Go.Proofs.YthkppbimkjmbnaaGreatDoor
